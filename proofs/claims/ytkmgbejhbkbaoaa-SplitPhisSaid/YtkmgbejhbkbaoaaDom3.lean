/- Parts joined by program: C8, C9, CA, S6, T1, Shelf2, S7, L8, S8, T2, N1, N2, L9, N3, N4, N5. -/
import Derived.Test.YtkmgbejhbkbaoaaDom2
import Derived.Defers
import Derived.Recover
import Derived.Shelf.SlSortCmp.WholeK
import Derived.Ground.SlsfProg
import Derived.Test.YtkmgbejhbkbaoaaProg
import Derived.Shelf.SlSortCmp.NoneTotal
/- The program's check: uses, walked. -/
namespace Go.Proofs.Ytkmgbejhbkbaoaa
set_option linter.unusedSimpArgs false
set_option linter.unusedVariables false
open Go.RowKit

set_option maxRecDepth 20000 in
set_option maxHeartbeats 1600000 in
theorem uses_calls {w : World} {q m : Nat} {params : Int} {vb : Value} {mk : Mk} {S : List Nat} {bs : List JBlock} (h : Look w q m params vb mk) (hnd : (mk.map (·.1)).Nodup) (hb : SlR kBlock 43 w S vb bs) (h0 : 0 < bs.length) (hn : bs.length ≤ 512)
    (hp : ∀ x ∈ bs, x.phis.length ≤ 4096 ∧ x.ins.length ≤ 4096) (hto : ∀ x ∈ bs, x.term.to.length ≤ 65) (hag : ∀ x ∈ bs, (∀ s ∈ x.ins, s.args.length ≤ 4096) ∧ x.term.args.length ≤ 4096) :
    Calls Try.prog 51 #[.pointer (some ⟨q, 0, none⟩)] w fun e w' =>
      ∃ idom, (AllR (ofF bs) → IdomOk (ofF bs) idom) ∧ e = endC (runC (usesC params mk (domF idom) bs)) ∧ Ext [] w w' := by
  obtain ⟨A, c, rfl, hcap⟩ := hb.shape
  have c0 := h.cl.cell (i := 0) rfl
  have c1 := h.cl.cell (i := 1) rfl
  have hql := h.cl.lt
  have hgood := ofF_good bs
  have hgl : (ofF bs).length = bs.length := ofF_len bs
  obtain ⟨w1, hw1⟩ : ∃ w1, w1 = w.alloc (.cells #[.pointer (some ⟨q, 0, none⟩)] 99) := ⟨_, rfl⟩
  have hx1 : Ext [] w w1 := by rw [hw1]; exact (Ext.refl _ _).alloc _
  have hb5 : Blk w1 w.heap.size 99 #[.pointer (some ⟨q, 0, none⟩)] := by rw [hw1]; exact Blk.new _ _ _
  go_enter Try.func51, Try.ntmps51
  go_wp2_with fail
  rw [← hw1]
  clear hw1
  refine (of_calls (f := ⟨params, bs⟩) ⟨_, rfl, hb.ext0 hx1⟩ (by simp only; omega) (fun x hx => by have := hto x hx; omega)).mono ?_
  rintro e w2 ⟨v2, S2, rfl, hr2, hnew2⟩
  simp only at hr2
  obtain ⟨g, hge⟩ : ∃ g, ofF bs = g := ⟨_, rfl⟩
  rw [hge] at hr2 hgood hgl
  have Hge := Lib.hid hge
  clear hge
  obtain ⟨A2, c2, rfl, _⟩ := hr2.shape
  rw [hgl]
  rw [hgl] at hr2
  have Hgl := Lib.hid hgl
  clear hgl
  go_wp2_with fail
  refine (order_calls hr2 hgood (by rw [Hgl.out]; omega)).mono ?_
  rintro e w3 ⟨v3, S3, rfl, hr3, hnew3⟩
  have hol := order_le hgood (by rw [Hgl.out]; exact h0)
  rw [Hgl.out] at hol
  have hreach := reach_all hgood (by rw [Hgl.out]; exact h0)
  have HU : Hid (∀ idom, runC (usesC params mk (domF idom) bs) = runC ((reachC g).drop 0 ++ (blocksU params mk (domF idom) bs).flatten)) := fun idom => by rw [usesC, Hge.out]; rfl
  have HR0 : Hid (runC (reachC g) = runC ((reachC g).drop 0)) := rfl
  have HrL : Hid (∀ j, j < bs.length → (reachC g).drop j = ((orderF g).contains j, (15, (j : Int), 0)) :: (reachC g).drop (j + 1)) := fun j hj => drop_map_range _ _ _ (by rw [Hgl.out]; exact hj)
  have HrE : Hid ((reachC g).drop bs.length = []) := by rw [Hid, ← Hgl.out]; exact drop_map_len _ _
  have HR := Lib.hid hreach
  clear hreach
  generalize ho : orderF g = o at *
  have Ho := Lib.hid ho
  clear ho
  obtain ⟨A3, c3, rfl, _⟩ := hr3.shape
  have hx3 : Ext [] w1 w3 := hnew2.ext.nil hnew3.ext
  have hr23 := hr2.ext0 hnew3.ext
  have hb53 := hb5.ext hx3 (by simp)
  have d5 := hb53.cell (i := 0) rfl
  have hlk3 := (h.ext0 hx1).ext0 hx3
  have k1 := hlk3.cl.cell (i := 1) rfl
  go_wp2
  go_loopg [36] bs.length (fun k vi wr => ∃ (j : Nat), vi = .int .i64 (j : Int) ∧ j ≤ bs.length ∧ Hid (j + k = bs.length) ∧ w3 = wr ∧
    Hid (∀ idom, runC (usesC params mk (domF idom) bs) = runC ((reachC g).drop j ++ (blocksU params mk (domF idom) bs).flatten)) ∧ Hid (runC (reachC g) = runC ((reachC g).drop j)))
  case atStart => exact ⟨0, rfl, by omega, by simp [Hid], rfl, HU, HR0⟩
  case round =>
    obtain ⟨j, rfl, hj, HK, rfl, HU, HR0⟩ := hrel
    by_cases hlt : j < bs.length
    · have hrj := HrL.out j hlt
      have HU2 : Hid (∀ idom, runC (usesC params mk (domF idom) bs) = runC ((o.contains j, (15, (j : Int), 0)) :: ((reachC g).drop (j + 1) ++ (blocksU params mk (domF idom) bs).flatten))) := fun idom => by rw [HU.out idom, hrj]; rfl
      have HR2 : Hid (runC (reachC g) = runC ((o.contains j, (15, (j : Int), 0)) :: (reachC g).drop (j + 1))) := by rw [Hid, HR0.out, hrj]
      clear HU HR0 hrj
      go_wp2_with fail
      refine (contains_calls (slr_nat_int.1 hr3) (by rw [List.length_map]; omega) j).mono ?_
      rintro e w4 ⟨rfl, rfl⟩
      rw [contains_ofNat]
      cases hc : o.contains j with
      | true =>
        rw [hc] at HU2 HR2
        clear hc
        go_wp2_with fail
        refine (must_calls _ true (15, (j : Int), 0)).mono ?_
        rintro e w4 ⟨rfl, rfl⟩
        simp only [runC, endC]
        go_wp2
        go_roundg (gk - 1)
        case measure => have := HK.out; omega
        case rel => exact ⟨j + 1, by go_num, by omega, by have := HK.out; simp only [Hid]; omega, rfl, HU2, HR2⟩
      | false =>
        rw [hc] at HU2 HR2
        clear hc
        go_wp2_with fail
        refine (must_calls _ false (15, (j : Int), 0)).mono ?_
        rintro e w4 ⟨rfl, rfl⟩
        simp only [runC, endC]
        go_wp2
        refine ⟨rfl, [], fun ha => ?_, by rw [HU2.out]; rfl, hx1.nil hx3⟩
        rw [Hge.out] at ha
        have := HR.out.2 ha
        rw [HR2.out] at this
        cases this
    · have hje : j = bs.length := by omega
      subst hje
      have HRn : Hid (AllR g) := HR.out.1 (by rw [HR0.out, HrE.out]; rfl)
      have HU2 : Hid (∀ idom, runC (usesC params mk (domF idom) bs) = runC ((blocksU params mk (domF idom) bs).drop 0).flatten) := fun idom => by rw [HU.out idom, HrE.out]; rfl
      clear HU HR0 HR HrL HrE
      go_wp2_with fail
      refine (preds_calls (g := g) hr23 hgood (by rw [Hgl.out]; omega)).mono ?_
      rintro e w4 ⟨v4, S4, rfl, hr4, hnew4⟩
      obtain ⟨A4, c4, rfl, _⟩ := hr4.shape
      go_wp2_with fail
      refine (idom_calls (g := g) (hr23.ext0 hnew4.ext) hgood HRn.out (by rw [Hgl.out]; omega)).mono ?_
      rintro e w5 ⟨v5, S5, idom, rfl, hr5, hid, hnew5⟩
      have hpl : (predsF g).length = bs.length := by rw [← Hgl.out]; simp [predsF, predsOf]
      rw [hpl] at hr4 ⊢
      have Hpl := Lib.hid hpl
      clear hpl
      have hx5 : Ext [] w1 w5 := hx3.nil (hnew4.ext.nil hnew5.ext)
      obtain ⟨w6, hw6⟩ : ∃ w6, w6 = w5.alloc (.cells #[v5] 22) := ⟨_, rfl⟩
      have hxa : Ext [] w5 w6 := by rw [hw6]; exact (Ext.refl _ _).alloc _
      have hU6 : UseW w6 q m w.heap.size w5.heap.size params (.slice A bs.length c) mk S5 v5 idom :=
        ⟨((h.ext0 hx1).ext0 hx5).ext0 hxa, (hb5.ext hx5 (by simp)).ext hxa (by simp), by rw [hw6]; exact Blk.new _ _ _, hr5.ext0 hxa⟩
      have hx6 : Ext [] w w6 := (hx1.nil hx5).nil hxa
      have hr46 := (hr4.ext0 hnew5.ext).ext0 hxa
      obtain ⟨A5, c5', rfl, _⟩ := hr5.shape
      have b55 := hb5.ext hx5 (by simp)
      have e5 := b55.cell (i := 0) rfl
      have l5 := b55.lt
      have k5 := ((h.ext0 hx1).ext0 hx5).cl
      have e1 := k5.cell (i := 1) rfl
      have lq := k5.lt
      have HF := HU2.out idom
      generalize hFF : usesC params mk (domF idom) bs = FF at *
      have HFF : Hid (runC FF = runC ((blocksU params mk (domF idom) bs).drop 0).flatten) := HF
      have Hidok : Hid (AllR (ofF bs) → IdomOk (ofF bs) idom) := fun _ => by rw [Hge.out]; exact hid
      have Hfin : Hid (∀ (e : Ending) (w' : World), e = endC (runC FF) → Ext [] w w' → ∃ idom, (AllR (ofF bs) → IdomOk (ofF bs) idom) ∧ e = endC (runC (usesC params mk (domF idom) bs)) ∧ Ext [] w w') :=
        fun e w' h1 h2 => ⟨idom, Hidok.out, by rw [hFF]; exact h1, h2⟩
      have hdl : idom.length ≤ 1073741824 := by rw [hid.1, Hgl.out]; omega
      clear HF hFF HU2 hnew4 hnew5 hnew2 hnew3 d5 k1 hlk3 hid
      go_wp2
      rw [← hw6]
      clear hw6
      go_loopg [56] bs.length (fun k vi wr => ∃ (i : Nat), vi = .int .i64 (i : Int) ∧ i ≤ bs.length ∧ Hid (i + k = bs.length) ∧ Ext [] w6 wr ∧ Hid (runC FF = runC ((blocksU params mk (domF idom) bs).drop i).flatten))
      case atStart => exact ⟨0, rfl, by omega, by simp [Hid], Ext.refl _ _, HFF⟩
      case round =>
        obtain ⟨i, rfl, hi, HK, hx7, HF⟩ := hrel
        obtain ⟨q0, hq0⟩ : ∃ x, x = gk := ⟨_, rfl⟩
        subst hq0
        by_cases hlt : i < bs.length
        · have hbw := (hb.ext0 hx6).ext0 hx7
          obtain ⟨gg, _, Ap, cp, Ai, ci, Aa, ca, At, ct, Sb, Sp, Si, Sa, St, hv, hg, hsub, hbc, b0, b1, b2, b3, b4, b5⟩ := FnR.block hbw i hlt
          cases hv
          have hdr : (blocksU params mk (domF idom) bs).drop i = blockU params mk (domF idom) bs i bs[i] :: (blocksU params mk (domF idom) bs).drop (i + 1) := by
            rw [blocksU, drop_map_range _ _ _ hlt]; simp [List.getD, hlt]
          rw [hdr, List.flatten_cons] at HF
          clear hdr
          obtain ⟨hp1, hp2⟩ := hp bs[i] (List.getElem_mem hlt)
          obtain ⟨hag1, hag2⟩ := hag bs[i] (List.getElem_mem hlt)
          have Hag1 := Lib.hid hag1
          clear hag1
          generalize bs[i] = x at *
          generalize hB : (blocksU params mk (domF idom) bs).drop (i + 1) = B at *
          have HB := Lib.hid hB
          clear hB
          obtain ⟨wb, hwb⟩ : ∃ wb, wb = wr.alloc (.cells #[.slice Ap x.phis.length cp, .slice Ai x.ins.length ci, .int .i64 x.term.kind, .slice Aa x.term.args.length ca, .slice At x.term.to.length ct, .int .i32 x.term.imm] 43) := ⟨_, rfl⟩
          have hxb : Ext [] wr wb := by rw [hwb]; exact (Ext.refl _ _).alloc _
          have hblk : Blk wb wr.heap.size 43 #[.slice Ap x.phis.length cp, .slice Ai x.ins.length ci, .int .i64 x.term.kind, .slice Aa x.term.args.length ca, .slice At x.term.to.length ct, .int .i32 x.term.imm] := by rw [hwb]; exact Blk.new _ _ _
          have hbc1 := hbc.move (w' := wb) (fun k hk => hxb.block k (hbc.lt k hk) (by simp))
          have hx8 : Ext [] w6 wb := hx7.nil hxb
          have d0 := hblk.cell (i := 0) rfl
          generalize hgb : wr.heap.size = gb at *
          go_wp2
          rw [← hwb]
          clear hwb b0 b1 b2 b3 b4 b5
          obtain ⟨R, hR⟩ : ∃ R, R = (((List.range x.ins.length).map (insU params mk (domF idom) i x)).flatten ++ x.term.args.map (argU params mk (domF idom) i x.ins.length)) ++ B.flatten := ⟨_, rfl⟩
          have hbt : blockU params mk (domF idom) bs i x ++ B.flatten = (((List.range x.phis.length).map (phiU params mk (domF idom) bs i x)).drop 0).flatten ++ R := by rw [hR, blockU]; simp
          rw [hbt] at HF
          have HR := Lib.hid hR
          clear hbt hR
          go_loopg [64] x.phis.length (fun k vi wr2 => ∃ (j : Nat), vi = .int .i64 (j : Int) ∧ j ≤ x.phis.length ∧ Hid (j + k = x.phis.length) ∧ Ext [] wb wr2 ∧
            Hid (runC FF = runC ((((List.range x.phis.length).map (phiU params mk (domF idom) bs i x)).drop j).flatten ++ R)))
          case atStart => exact ⟨0, rfl, by omega, by simp [Hid], Ext.refl _ _, HF⟩
          case round =>
            obtain ⟨j, rfl, hj, HK2, hx9, HF2⟩ := hrel
            obtain ⟨q1, hq1⟩ : ∃ x, x = gk := ⟨_, rfl⟩
            subst hq1
            clear HF
            by_cases hlt2 : j < x.phis.length
            · obtain ⟨gp, Sj, cs, rfl, hgp, _, ⟨vj, rfl, hvj⟩, hcj⟩ := (hbc1.p.ext0 hx9).cells j hlt2
              have e0 := hcj 0 _ rfl
              have e1' := hcj 1 _ rfl
              simp only [kPhi, Nat.add_zero] at e0 e1'
              have hph : ((List.range x.phis.length).map (phiU params mk (domF idom) bs i x)).drop j = phiU params mk (domF idom) bs i x j :: ((List.range x.phis.length).map (phiU params mk (domF idom) bs i x)).drop (j + 1) := drop_map_range _ _ _ hlt2
              have hpu : phiU params mk (domF idom) bs i x j = (phiFits i x.phis[j] (prd g i), (16, (i : Int), -1 - (j : Int))) :: x.phis[j].ins.map (inU params mk (domF idom) bs i j) := by
                rw [phiU, Hge.out]; simp [List.getD, hlt2]
              rw [hph, hpu, List.flatten_cons, List.cons_append, List.cons_append, List.append_assoc] at HF2
              clear hph hpu hcj
              generalize x.phis[j] = p at *
              obtain ⟨Av, cv, rfl, _⟩ := hvj.shape
              have hpr : i < (predsF g).length := by rw [Hpl.out]; exact hlt
              have hprd : prd g i = (predsF g)[i] := by simp [prd, List.getD, hpr]
              obtain ⟨p4, _, Ar, cr, Sr, hv, _, er, hrow, _⟩ := row_get ((hr46.ext0 hx8).ext0 hx9) i hpr
              rw [Hpl.out] at hv
              cases hv
              have Hrow : Hid (∀ a ∈ prd g i, a < bs.length) := fun a ha => by rw [← Hgl.out]; exact (net_of hgood HRn.out).plt i (by rw [Hgl.out]; exact hlt) a ha
              rw [hprd] at HF2 Hrow
              have Hprd := Lib.hid hprd
              clear hprd
              generalize (predsF g)[i] = row at *
              obtain ⟨gq, hgq⟩ : ∃ gq, gq = wr.heap.size := ⟨_, rfl⟩
              obtain ⟨wq, hwq⟩ : ∃ wq, wq = wr.alloc (.cells #[.int .i64 p.dst, .slice Av p.ins.length cv] 46) := ⟨_, rfl⟩
              have hxq : Ext [] wr wq := by rw [hwq]; exact (Ext.refl _ _).alloc _
              have hbq : Blk wq gq 46 #[.int .i64 p.dst, .slice Av p.ins.length cv] := by rw [hwq, hgq]; exact Blk.new _ _ _
              go_wp2
              rw [← hwq, ← hgq]
              have g1 := hbq.cell (i := 1) rfl
              have er' := hxq.cell er (by simp)
              clear er e0 e1' hwq hgq
              have hsp : (i = 0 ∧ fitT i p row 0 = false) ∨ (¬ i = 0 ∧ p.ins.length = row.length ∧ fitT i p row 0 = true) ∨ (¬ i = 0 ∧ ¬ p.ins.length = row.length ∧ fitT i p row 0 = false) := by
                rw [fitT_zero]
                by_cases h1 : i = 0
                · exact .inl ⟨h1, by simp [h1]⟩
                · by_cases h2 : p.ins.length = row.length
                  · exact .inr (.inl ⟨h1, h2, by simp [h2]; omega⟩)
                  · exact .inr (.inr ⟨h1, h2, by simp [h2]⟩)
              refine wp_region_rt (fun W => W.cell? ⟨gq, 1, none⟩ = some (.slice Av p.ins.length cv) ∧ W.cell? ⟨p4, i, none⟩ = some (.slice Ar row.length cr)) (.q 0 (.q 1 (.q 2 (.q 3 (.q 4 (.q 5 (.q 6 (.q 7 (.q 8 (.q 9 (.q 10 (.q 11 (.q 12 (.q 13 .nil)))))))))))))) (by kernel_rfl) (by kernel_rfl) ⟨g1, er'⟩ ?_
              refine rt_put [69, 70, 71, 72, 73, 74, 75, 76, 77, 78, 79, 80, 81] [(12, .bool (fitT i p row 0))] (fun W => W = wq.drew) ?_ ?_
              · rcases hsp with ⟨h1, hf⟩ | ⟨h1, h2, hf⟩ | ⟨h1, h2, hf⟩
                · have Hf := Lib.hid hf
                  have h5 : i = 0 := h1
                  clear hf h1
                  refine rt_quiet (.int .i64 (i : Int)) rfl rfl (fun W' hC => by simp [go_sem]) ?_
                  simp only [put_lit, put_none, List.set_cons_succ, List.set_cons_zero]
                  refine rt_quiet (.bool false) rfl rfl (fun W' hC => by simp [go_sem, h5]) ?_
                  simp only [put_lit, put_none, List.set_cons_succ, List.set_cons_zero]
                  refine rt_quiet (.bool false) rfl rfl (fun W' hC => by simp [go_sem]) ?_
                  simp only [put_lit, put_none, List.set_cons_succ, List.set_cons_zero]
                  refine rt_skip rfl rfl ?_
                  simp only [put_lit, put_none, List.set_cons_succ, List.set_cons_zero]
                  refine rt_skip rfl rfl ?_
                  simp only [put_lit, put_none, List.set_cons_succ, List.set_cons_zero]
                  refine rt_skip rfl rfl ?_
                  simp only [put_lit, put_none, List.set_cons_succ, List.set_cons_zero]
                  refine rt_skip rfl rfl ?_
                  simp only [put_lit, put_none, List.set_cons_succ, List.set_cons_zero]
                  refine rt_skip rfl rfl ?_
                  simp only [put_lit, put_none, List.set_cons_succ, List.set_cons_zero]
                  refine rt_skip rfl rfl ?_
                  simp only [put_lit, put_none, List.set_cons_succ, List.set_cons_zero]
                  refine rt_skip rfl rfl ?_
                  simp only [put_lit, put_none, List.set_cons_succ, List.set_cons_zero]
                  refine rt_skip rfl rfl ?_
                  simp only [put_lit, put_none, List.set_cons_succ, List.set_cons_zero]
                  refine rt_skip rfl rfl ?_
                  simp only [put_lit, put_none, List.set_cons_succ, List.set_cons_zero]
                  refine rt_quiet (.bool false) rfl rfl (fun W' hC => by simp [go_sem]) ?_
                  simp only [put_lit, put_none, List.set_cons_succ, List.set_cons_zero]
                  refine rt_quiet (.bool false) rfl rfl (fun W' hC => by simp [go_sem]) ?_
                  simp only [put_lit, put_none, List.set_cons_succ, List.set_cons_zero]
                  refine rt_nil ?_
                  refine ⟨by trivial, [.int .i64 (i : Int), .bool false, .bool false, undef, undef, undef, undef, undef, undef, undef, undef, undef, .bool false], rfl, ?_, rfl⟩
                  rw [Hf.out]
                  simp only [List.zip_cons_cons, List.zip_nil_left, List.cons_append, List.nil_append, puts_cons, puts_nil, put_lit, List.set_cons_succ, List.set_cons_zero]
                · have Hf := Lib.hid hf
                  have h5 : 0 < i := by omega
                  have h4 : ((p.ins.length : Int) == (row.length : Int)) = true := by simp [h2]
                  clear hf h1 h2
                  refine rt_quiet (.int .i64 (i : Int)) rfl rfl (fun W' hC => by simp [go_sem]) ?_
                  simp only [put_lit, put_none, List.set_cons_succ, List.set_cons_zero]
                  refine rt_quiet (.bool true) rfl rfl (fun W' hC => by simp [go_sem, h5]) ?_
                  simp only [put_lit, put_none, List.set_cons_succ, List.set_cons_zero]
                  refine rt_quiet (.bool true) rfl rfl (fun W' hC => by simp [go_sem]) ?_
                  simp only [put_lit, put_none, List.set_cons_succ, List.set_cons_zero]
                  refine rt_quiet (.pointer (some ⟨gq, 1, none⟩)) rfl rfl (fun W' hC => by simp [go_sem]) ?_
                  simp only [put_lit, put_none, List.set_cons_succ, List.set_cons_zero]
                  refine rt_quiet (.slice Av p.ins.length cv) rfl rfl (fun W' hC => by simp [go_sem, hC.1]) ?_
                  simp only [put_lit, put_none, List.set_cons_succ, List.set_cons_zero]
                  refine rt_quiet (.int .i64 (p.ins.length : Int)) rfl rfl (fun W' hC => by simp [go_sem]) ?_
                  simp only [put_lit, put_none, List.set_cons_succ, List.set_cons_zero]
                  refine rt_quiet (.slice (some ⟨p4, 0, none⟩) bs.length c4) rfl rfl (fun W' hC => by simp [go_sem]) ?_
                  simp only [put_lit, put_none, List.set_cons_succ, List.set_cons_zero]
                  refine rt_quiet (.int .i64 (i : Int)) rfl rfl (fun W' hC => by simp [go_sem]) ?_
                  simp only [put_lit, put_none, List.set_cons_succ, List.set_cons_zero]
                  refine rt_quiet (.pointer (some ⟨p4, i, none⟩)) rfl rfl (fun W' hC => by simp [go_sem, hlt]) ?_
                  simp only [put_lit, put_none, List.set_cons_succ, List.set_cons_zero]
                  refine rt_quiet (.slice Ar row.length cr) rfl rfl (fun W' hC => by simp [go_sem, hC.2]) ?_
                  simp only [put_lit, put_none, List.set_cons_succ, List.set_cons_zero]
                  refine rt_quiet (.int .i64 (row.length : Int)) rfl rfl (fun W' hC => by simp [go_sem]) ?_
                  simp only [put_lit, put_none, List.set_cons_succ, List.set_cons_zero]
                  refine rt_quiet (.bool true) rfl rfl (fun W' hC => by simp [go_sem, h4]) ?_
                  simp only [put_lit, put_none, List.set_cons_succ, List.set_cons_zero]
                  refine rt_quiet (.bool true) rfl rfl (fun W' hC => by simp [go_sem]) ?_
                  simp only [put_lit, put_none, List.set_cons_succ, List.set_cons_zero]
                  refine rt_quiet (.bool true) rfl rfl (fun W' hC => by simp [go_sem]) ?_
                  simp only [put_lit, put_none, List.set_cons_succ, List.set_cons_zero]
                  refine rt_nil ?_
                  refine ⟨by trivial, [.int .i64 (i : Int), .bool true, .bool true, .pointer (some ⟨gq, 1, none⟩), .slice Av p.ins.length cv, .int .i64 (p.ins.length : Int), .slice (some ⟨p4, 0, none⟩) bs.length c4, .int .i64 (i : Int), .pointer (some ⟨p4, i, none⟩), .slice Ar row.length cr, .int .i64 (row.length : Int), .bool true, .bool true], rfl, ?_, rfl⟩
                  rw [Hf.out]
                  simp only [List.zip_cons_cons, List.zip_nil_left, List.cons_append, List.nil_append, puts_cons, puts_nil, put_lit, List.set_cons_succ, List.set_cons_zero]
                · have Hf := Lib.hid hf
                  have h5 : 0 < i := by omega
                  have h4 : ((p.ins.length : Int) == (row.length : Int)) = false := by simp; omega
                  clear hf h1 h2
                  refine rt_quiet (.int .i64 (i : Int)) rfl rfl (fun W' hC => by simp [go_sem]) ?_
                  simp only [put_lit, put_none, List.set_cons_succ, List.set_cons_zero]
                  refine rt_quiet (.bool true) rfl rfl (fun W' hC => by simp [go_sem, h5]) ?_
                  simp only [put_lit, put_none, List.set_cons_succ, List.set_cons_zero]
                  refine rt_quiet (.bool true) rfl rfl (fun W' hC => by simp [go_sem]) ?_
                  simp only [put_lit, put_none, List.set_cons_succ, List.set_cons_zero]
                  refine rt_quiet (.pointer (some ⟨gq, 1, none⟩)) rfl rfl (fun W' hC => by simp [go_sem]) ?_
                  simp only [put_lit, put_none, List.set_cons_succ, List.set_cons_zero]
                  refine rt_quiet (.slice Av p.ins.length cv) rfl rfl (fun W' hC => by simp [go_sem, hC.1]) ?_
                  simp only [put_lit, put_none, List.set_cons_succ, List.set_cons_zero]
                  refine rt_quiet (.int .i64 (p.ins.length : Int)) rfl rfl (fun W' hC => by simp [go_sem]) ?_
                  simp only [put_lit, put_none, List.set_cons_succ, List.set_cons_zero]
                  refine rt_quiet (.slice (some ⟨p4, 0, none⟩) bs.length c4) rfl rfl (fun W' hC => by simp [go_sem]) ?_
                  simp only [put_lit, put_none, List.set_cons_succ, List.set_cons_zero]
                  refine rt_quiet (.int .i64 (i : Int)) rfl rfl (fun W' hC => by simp [go_sem]) ?_
                  simp only [put_lit, put_none, List.set_cons_succ, List.set_cons_zero]
                  refine rt_quiet (.pointer (some ⟨p4, i, none⟩)) rfl rfl (fun W' hC => by simp [go_sem, hlt]) ?_
                  simp only [put_lit, put_none, List.set_cons_succ, List.set_cons_zero]
                  refine rt_quiet (.slice Ar row.length cr) rfl rfl (fun W' hC => by simp [go_sem, hC.2]) ?_
                  simp only [put_lit, put_none, List.set_cons_succ, List.set_cons_zero]
                  refine rt_quiet (.int .i64 (row.length : Int)) rfl rfl (fun W' hC => by simp [go_sem]) ?_
                  simp only [put_lit, put_none, List.set_cons_succ, List.set_cons_zero]
                  refine rt_quiet (.bool false) rfl rfl (fun W' hC => by simp [go_sem, h4]) ?_
                  simp only [put_lit, put_none, List.set_cons_succ, List.set_cons_zero]
                  refine rt_quiet (.bool false) rfl rfl (fun W' hC => by simp [go_sem]) ?_
                  simp only [put_lit, put_none, List.set_cons_succ, List.set_cons_zero]
                  refine rt_quiet (.bool false) rfl rfl (fun W' hC => by simp [go_sem]) ?_
                  simp only [put_lit, put_none, List.set_cons_succ, List.set_cons_zero]
                  refine rt_nil ?_
                  refine ⟨by trivial, [.int .i64 (i : Int), .bool true, .bool true, .pointer (some ⟨gq, 1, none⟩), .slice Av p.ins.length cv, .int .i64 (p.ins.length : Int), .slice (some ⟨p4, 0, none⟩) bs.length c4, .int .i64 (i : Int), .pointer (some ⟨p4, i, none⟩), .slice Ar row.length cr, .int .i64 (row.length : Int), .bool false, .bool false], rfl, ?_, rfl⟩
                  rw [Hf.out]
                  simp only [List.zip_cons_cons, List.zip_nil_left, List.cons_append, List.nil_append, puts_cons, puts_nil, put_lit, List.set_cons_succ, List.set_cons_zero]
              · rintro vs W' hvl rfl
                rcases vs with _ | ⟨z1, _ | ⟨z2, _ | ⟨z3, _ | ⟨z4, _ | ⟨z5, _ | ⟨z6, _ | ⟨z7, _ | ⟨z8, _ | ⟨z9, _ | ⟨z10, _ | ⟨z11, _ | ⟨z12, _ | ⟨z13, _ | ⟨z14, vs⟩⟩⟩⟩⟩⟩⟩⟩⟩⟩⟩⟩⟩⟩ <;> first | (exfalso; simp at hvl; done) | skip
                simp only [List.zip_cons_cons, List.zip_nil_left, List.cons_append, List.nil_append, puts_cons, puts_nil, put_lit, List.set_cons_succ, List.set_cons_zero]
                clear hvl hsp
                go_wp2
                have hpl9 : p.ins.length ≤ 9223372036854775807 := hvj.len_le
                go_loopg [85, 12] p.ins.length (fun kk vi vf wr2 => ∃ (k : Nat), vi = .int .i64 (k : Int) ∧ k ≤ p.ins.length ∧ Hid (k + kk = p.ins.length) ∧ vf = .bool (fitT i p row k) ∧ Ext [] wq wr2)
                case atStart => exact ⟨0, rfl, by omega, by simp [Hid], rfl, (Ext.refl _ _).drew⟩
                case round =>
                  obtain ⟨k, rfl, hk, HK3, rfl, hx10⟩ := hrel
                  by_cases hlt3 : k < p.ins.length
                  · have hgk : 0 < gk := by have := HK3.out; omega
                    obtain ⟨gv, Sn, cs, rfl, _, _, ⟨_, rfl⟩, hcn⟩ := ((hvj.ext0 hxq).ext0 hx10).cells k hlt3
                    have n0 := hcn 0 _ rfl
                    have n1 := hcn 1 _ rfl
                    simp only [kIn, Nat.add_zero] at n0 n1
                    have Hsucc : Hid (∀ h2 : k < row.length, fitT i p row (k + 1) = (fitT i p row k && decide (p.ins[k].src = (row[k] : Int)))) := fun h2 => fitT_succ hlt3 h2
                    clear hcn
                    generalize p.ins[k] = n at *
                    obtain ⟨gn, hgn⟩ : ∃ gn, gn = wr.heap.size := ⟨_, rfl⟩
                    obtain ⟨wn, hwn⟩ : ∃ wn, wn = wr.alloc (.cells #[.int .i64 n.src, .int .i64 n.val] 49) := ⟨_, rfl⟩
                    have hxn : Ext [] wr wn := by rw [hwn]; exact (Ext.refl _ _).alloc _
                    have hbn : Blk wn gn 49 #[.int .i64 n.src, .int .i64 n.val] := by rw [hwn, hgn]; exact Blk.new _ _ _
                    have m0 := hbn.cell (i := 0) rfl
                    have er2 := (hx10.nil hxn).cell er' (by simp)
                    go_wp2
                    rw [← hwn, ← hgn]
                    clear n0 n1 hwn hgn
                    cases hf : fitT i p row k with
                    | false =>
                      have Hf : Hid (fitT i p row (k + 1) = false) := fitT_false hf
                      refine wp_region_rt (fun W => True) (.q 0 (.q 1 (.q 2 (.q 3 (.q 4 (.q 5 (.q 6 (.q 7 (.q 8 (.q 9 (.q 10 (.q 11 (.q 12 (.q 13 .nil)))))))))))))) (by kernel_rfl) (by kernel_rfl) trivial ?_
                      refine rt_put [90, 91, 92, 93, 94, 95, 96, 97, 98, 99, 100, 101, 102] [(12, .bool (fitT i p row (k + 1)))] (fun W => W = wn.drew) ?_ ?_
                      · refine rt_quiet (.bool false) rfl rfl (fun W' hC => by simp [go_sem]) ?_
                        simp only [put_lit, put_none, List.set_cons_succ, List.set_cons_zero]
                        refine rt_quiet (.bool false) rfl rfl (fun W' hC => by simp [go_sem]) ?_
                        simp only [put_lit, put_none, List.set_cons_succ, List.set_cons_zero]
                        refine rt_skip rfl rfl ?_
                        simp only [put_lit, put_none, List.set_cons_succ, List.set_cons_zero]
                        refine rt_skip rfl rfl ?_
                        simp only [put_lit, put_none, List.set_cons_succ, List.set_cons_zero]
                        refine rt_skip rfl rfl ?_
                        simp only [put_lit, put_none, List.set_cons_succ, List.set_cons_zero]
                        refine rt_skip rfl rfl ?_
                        simp only [put_lit, put_none, List.set_cons_succ, List.set_cons_zero]
                        refine rt_skip rfl rfl ?_
                        simp only [put_lit, put_none, List.set_cons_succ, List.set_cons_zero]
                        refine rt_skip rfl rfl ?_
                        simp only [put_lit, put_none, List.set_cons_succ, List.set_cons_zero]
                        refine rt_skip rfl rfl ?_
                        simp only [put_lit, put_none, List.set_cons_succ, List.set_cons_zero]
                        refine rt_skip rfl rfl ?_
                        simp only [put_lit, put_none, List.set_cons_succ, List.set_cons_zero]
                        refine rt_skip rfl rfl ?_
                        simp only [put_lit, put_none, List.set_cons_succ, List.set_cons_zero]
                        refine rt_skip rfl rfl ?_
                        simp only [put_lit, put_none, List.set_cons_succ, List.set_cons_zero]
                        refine rt_quiet (.bool false) rfl rfl (fun W' hC => by simp [go_sem]) ?_
                        simp only [put_lit, put_none, List.set_cons_succ, List.set_cons_zero]
                        refine rt_quiet (.bool false) rfl rfl (fun W' hC => by simp [go_sem]) ?_
                        simp only [put_lit, put_none, List.set_cons_succ, List.set_cons_zero]
                        refine rt_nil ?_
                        refine ⟨by trivial, [.bool false, .bool false, undef, undef, undef, undef, undef, undef, undef, undef, undef, undef, .bool false], rfl, ?_, rfl⟩
                        rw [Hf.out]
                        simp only [List.zip_cons_cons, List.zip_nil_left, List.cons_append, List.nil_append, puts_cons, puts_nil, put_lit, List.set_cons_succ, List.set_cons_zero]
                      · rintro vs W' hvl rfl
                        rcases vs with _ | ⟨z1, _ | ⟨z2, _ | ⟨z3, _ | ⟨z4, _ | ⟨z5, _ | ⟨z6, _ | ⟨z7, _ | ⟨z8, _ | ⟨z9, _ | ⟨z10, _ | ⟨z11, _ | ⟨z12, _ | ⟨z13, _ | ⟨z14, vs⟩⟩⟩⟩⟩⟩⟩⟩⟩⟩⟩⟩⟩⟩ <;> first | (exfalso; simp at hvl; done) | skip
                        simp only [List.zip_cons_cons, List.zip_nil_left, List.cons_append, List.nil_append, puts_cons, puts_nil, put_lit, List.set_cons_succ, List.set_cons_zero]
                        clear hvl
                        go_wp2
                        go_roundg (gk - 1)
                        case measure => omega
                        case rel => exact ⟨k + 1, by go_num, hlt3, by have := HK3.out; simp only [Hid]; omega, rfl, (hx10.nil hxn).drew⟩
                    | true =>
                      have hrl : k < row.length := by have := fitT_len hf; omega
                      obtain ⟨gr, _, hv, _, ek, _⟩ := ((hrow.ext0 hxq).ext0 (hx10.nil hxn)).cell k hrl
                      cases hv
                      have hs := Hsucc.out hrl
                      rw [hf, Bool.true_and] at hs
                      generalize row[k] = rk at *
                      have Hf : Hid (fitT i p row (k + 1) = (n.src == (rk : Int))) := by rw [Hid, hs]; rfl
                      have hkr := hrl
                      clear hs hrl
                      refine wp_region_rt (fun W => W.cell? ⟨gn, 0, none⟩ = some (.int .i64 n.src) ∧ W.cell? ⟨p4, i, none⟩ = some (.slice (some ⟨gr, 0, none⟩) row.length cr) ∧ W.cell? ⟨gr, k, none⟩ = some (.int .i64 (rk : Int))) (.q 0 (.q 1 (.q 2 (.q 3 (.q 4 (.q 5 (.q 6 (.q 7 (.q 8 (.q 9 (.q 10 (.q 11 (.q 12 (.q 13 .nil)))))))))))))) (by kernel_rfl) (by kernel_rfl) ⟨m0, er2, ek⟩ ?_
                      refine rt_put [90, 91, 92, 93, 94, 95, 96, 97, 98, 99, 100, 101, 102] [(12, .bool (fitT i p row (k + 1)))] (fun W => W = wn.drew) ?_ ?_
                      · refine rt_quiet (.bool true) rfl rfl (fun W' hC => by simp [go_sem]) ?_
                        simp only [put_lit, put_none, List.set_cons_succ, List.set_cons_zero]
                        refine rt_quiet (.bool true) rfl rfl (fun W' hC => by simp [go_sem]) ?_
                        simp only [put_lit, put_none, List.set_cons_succ, List.set_cons_zero]
                        refine rt_quiet (.pointer (some ⟨gn, 0, none⟩)) rfl rfl (fun W' hC => by simp [go_sem]) ?_
                        simp only [put_lit, put_none, List.set_cons_succ, List.set_cons_zero]
                        refine rt_quiet (.int .i64 n.src) rfl rfl (fun W' hC => by simp [go_sem, hC.1]) ?_
                        simp only [put_lit, put_none, List.set_cons_succ, List.set_cons_zero]
                        refine rt_quiet (.slice (some ⟨p4, 0, none⟩) bs.length c4) rfl rfl (fun W' hC => by simp [go_sem]) ?_
                        simp only [put_lit, put_none, List.set_cons_succ, List.set_cons_zero]
                        refine rt_quiet (.int .i64 (i : Int)) rfl rfl (fun W' hC => by simp [go_sem]) ?_
                        simp only [put_lit, put_none, List.set_cons_succ, List.set_cons_zero]
                        refine rt_quiet (.pointer (some ⟨p4, i, none⟩)) rfl rfl (fun W' hC => by simp [go_sem, hlt]) ?_
                        simp only [put_lit, put_none, List.set_cons_succ, List.set_cons_zero]
                        refine rt_quiet (.slice (some ⟨gr, 0, none⟩) row.length cr) rfl rfl (fun W' hC => by simp [go_sem, hC.2.1]) ?_
                        simp only [put_lit, put_none, List.set_cons_succ, List.set_cons_zero]
                        refine rt_quiet (.int .i64 (k : Int)) rfl rfl (fun W' hC => by simp [go_sem]) ?_
                        simp only [put_lit, put_none, List.set_cons_succ, List.set_cons_zero]
                        refine rt_quiet (.pointer (some ⟨gr, k, none⟩)) rfl rfl (fun W' hC => by simp [go_sem, hkr]) ?_
                        simp only [put_lit, put_none, List.set_cons_succ, List.set_cons_zero]
                        refine rt_quiet (.int .i64 (rk : Int)) rfl rfl (fun W' hC => by simp [go_sem, hC.2.2]) ?_
                        simp only [put_lit, put_none, List.set_cons_succ, List.set_cons_zero]
                        refine rt_quiet (.bool (n.src == (rk : Int))) rfl rfl (fun W' hC => by simp [go_sem]) ?_
                        simp only [put_lit, put_none, List.set_cons_succ, List.set_cons_zero]
                        refine rt_quiet (.bool (n.src == (rk : Int))) rfl rfl (fun W' hC => by simp [go_sem]) ?_
                        simp only [put_lit, put_none, List.set_cons_succ, List.set_cons_zero]
                        refine rt_quiet (.bool (n.src == (rk : Int))) rfl rfl (fun W' hC => by simp [go_sem]) ?_
                        simp only [put_lit, put_none, List.set_cons_succ, List.set_cons_zero]
                        refine rt_nil ?_
                        refine ⟨by trivial, [.bool true, .bool true, .pointer (some ⟨gn, 0, none⟩), .int .i64 n.src, .slice (some ⟨p4, 0, none⟩) bs.length c4, .int .i64 (i : Int), .pointer (some ⟨p4, i, none⟩), .slice (some ⟨gr, 0, none⟩) row.length cr, .int .i64 (k : Int), .pointer (some ⟨gr, k, none⟩), .int .i64 (rk : Int), .bool (n.src == (rk : Int)), .bool (n.src == (rk : Int))], rfl, ?_, rfl⟩
                        rw [Hf.out]
                        simp only [List.zip_cons_cons, List.zip_nil_left, List.cons_append, List.nil_append, puts_cons, puts_nil, put_lit, List.set_cons_succ, List.set_cons_zero]
                      · rintro vs W' hvl rfl
                        rcases vs with _ | ⟨z1, _ | ⟨z2, _ | ⟨z3, _ | ⟨z4, _ | ⟨z5, _ | ⟨z6, _ | ⟨z7, _ | ⟨z8, _ | ⟨z9, _ | ⟨z10, _ | ⟨z11, _ | ⟨z12, _ | ⟨z13, _ | ⟨z14, vs⟩⟩⟩⟩⟩⟩⟩⟩⟩⟩⟩⟩⟩⟩ <;> first | (exfalso; simp at hvl; done) | skip
                        simp only [List.zip_cons_cons, List.zip_nil_left, List.cons_append, List.nil_append, puts_cons, puts_nil, put_lit, List.set_cons_succ, List.set_cons_zero]
                        clear hvl
                        go_wp2
                        go_roundg (gk - 1)
                        case measure => omega
                        case rel => exact ⟨k + 1, by go_num, hlt3, by have := HK3.out; simp only [Hid]; omega, rfl, (hx10.nil hxn).drew⟩
                  · have hke : k = p.ins.length := by omega
                    subst hke
                    rw [fitT_all]
                    go_wp2_with fail
                    cases hfit : phiFits i p row with
                    | false =>
                      rw [hfit, runC_false] at HF2
                      refine (must_calls _ false (16, (i : Int), -1 - (j : Int))).mono ?_
                      rintro e w7 ⟨rfl, rfl⟩
                      simp only [runC, endC]
                      go_wp2
                      refine ⟨rfl, ?_⟩
                      exact Hfin.out _ _ (by rw [HF2.out]; rfl) (hx6.nil ((hx8.nil hx9).nil (hxq.nil hx10)))
                    | true =>
                      rw [hfit, runC_true] at HF2
                      have Hsrc : Hid (p.ins.map (·.src) = row.map Int.ofNat) := by
                        simp only [phiFits, Bool.and_eq_true, decide_eq_true_eq] at hfit; exact hfit.2
                      refine (must_calls _ true (16, (i : Int), -1 - (j : Int))).mono ?_
                      rintro e w7 ⟨rfl, rfl⟩
                      simp only [runC, endC]
                      have g2 := hbq.ext hx10 (by simp)
                      have g3 := g2.cell (i := 1) rfl
                      clear hfit
                      obtain ⟨wz, hwz⟩ : ∃ x, x = w7 := ⟨_, rfl⟩
                      subst hwz
                      go_wp2
                      go_loopg [112] p.ins.length (fun kk vi wr2 => ∃ (k : Nat), vi = .int .i64 (k : Int) ∧ k ≤ p.ins.length ∧ Hid (k + kk = p.ins.length) ∧ Ext [] wz wr2 ∧
                        Hid (runC FF = runC ((p.ins.drop k).map (inU params mk (domF idom) bs i j) ++ ((((List.range x.phis.length).map (phiU params mk (domF idom) bs i x)).drop (j + 1)).flatten ++ R))))
                      case atStart => exact ⟨0, rfl, by omega, by simp [Hid], Ext.refl _ _, HF2⟩
                      case round =>
                        obtain ⟨k, rfl, hk, HK3, hx11, HF3⟩ := hrel
                        clear HF2
                        have hUr := (((hU6.ext0 (hx8.nil hx9)).ext0 (hxq.nil hx10)).ext0 hx11)
                        by_cases hlt3 : k < p.ins.length
                        · obtain ⟨gv, Sn, cs, rfl, _, _, ⟨_, rfl⟩, hcn⟩ := ((hvj.ext0 (hxq.nil hx10)).ext0 hx11).cells k hlt3
                          have n0 := hcn 0 _ rfl
                          have n1 := hcn 1 _ rfl
                          simp only [kIn, Nat.add_zero] at n0 n1
                          rw [List.drop_eq_getElem_cons hlt3, List.map_cons, List.cons_append] at HF3
                          have hrl : k < row.length := by
                            have := congrArg List.length Hsrc.out; simp only [List.length_map] at this; omega
                          have hsk : p.ins[k].src = ((row[k] : Nat) : Int) := by
                            have h1 : (p.ins.map (·.src))[k]'(by simpa using hlt3) = (row.map Int.ofNat)[k]'(by simpa using hrl) := by simp only [Hsrc.out]
                            simpa using h1
                          have hrk := Hrow.out row[k] (List.getElem_mem hrl)
                          generalize p.ins[k] = n at *
                          generalize row[k] = rk at *
                          obtain ⟨nsrc, nval⟩ := n
                          simp only at hsk n0 n1
                          subst hsk
                          obtain ⟨_, _, _, _, Ai2, ci2, _, _, _, _, _, _, _, _, _, hv, _, _, _, _, bi, _, _, _, _⟩ := FnR.block ((hb.ext0 hx6).ext0 (((hx8.nil hx9).nil (hxq.nil hx10)).nil hx11)) rk hrk
                          cases hv
                          have hin : inU params mk (domF idom) bs i j ⟨(rk : Int), nval⟩ = (useB params mk (domF idom) nval (rk : Int) (bs[rk].ins.length : Int), (13, (i : Int), -1 - (j : Int))) := by simp [inU, List.getD, hrk]
                          rw [hin] at HF3
                          have Hin := Lib.hid hin
                          clear hin hcn
                          generalize bs[rk] = y at *
                          obtain ⟨gn, hgn⟩ : ∃ gn, gn = wr.heap.size := ⟨_, rfl⟩
                          obtain ⟨wn, hwn⟩ : ∃ wn, wn = wr.alloc (.cells #[.int .i64 (rk : Int), .int .i64 nval] 49) := ⟨_, rfl⟩
                          have hxn : Ext [] wr wn := by rw [hwn]; exact (Ext.refl _ _).alloc _
                          have hbn : Blk wn gn 49 #[.int .i64 (rk : Int), .int .i64 nval] := by rw [hwn, hgn]; exact Blk.new _ _ _
                          have hUn := hUr.ext0 hxn
                          have bi' := hxn.cell bi (by simp)
                          go_wp2
                          rw [← hwn, ← hgn]
                          clear n0 n1 hwn hgn bi
                          refine wp_region_rt (fun W => Blk W gn 49 #[.int .i64 (rk : Int), .int .i64 nval] ∧ Blk W w.heap.size 99 #[.pointer (some ⟨q, 0, none⟩)] ∧ Blk W q 102 #[.int .i64 params, .slice (some ⟨gg, 0, none⟩) bs.length c, .map (some m)] ∧ W.cell? ⟨gg, rk * 6 + 1, none⟩ = some (.slice Ai2 y.ins.length ci2))
                            (.q 0 (.q 1 (.q 2 (.q 3 (.q 4 (.q 5 (.q 6 (.q 7 (.q 8 (.q 9 (.q 10 (.q 11 (.q 12 (.q 13 (.q 14 (.q 15 (.q 16 (.q 17 (.q 18 (.fin 19)))))))))))))))))))) (by kernel_rfl) (by kernel_rfl) ⟨hbn, hUn.b5, hUn.look.cl, bi'⟩ ?_
                          refine rt_quiet (.func (.func 74) #[] #[.pointer (some ⟨w.heap.size, 0, none⟩), .pointer (some ⟨w5.heap.size, 0, none⟩)]) rfl rfl (fun W' hC => by simp [go_sem]) ?_
                          simp only [put_lit, put_none, List.set_cons_succ, List.set_cons_zero]
                          refine rt_quiet (.pointer (some ⟨gn, 1, none⟩)) rfl rfl (fun W' hC => by simp [go_sem]) ?_
                          simp only [put_lit, put_none, List.set_cons_succ, List.set_cons_zero]
                          refine rt_quiet (.int .i64 nval) rfl rfl (fun W' hC => by simp [go_sem, hC.1.cell (i := 1) rfl]) ?_
                          simp only [put_lit, put_none, List.set_cons_succ, List.set_cons_zero]
                          refine rt_quiet (.pointer (some ⟨gn, 0, none⟩)) rfl rfl (fun W' hC => by simp [go_sem]) ?_
                          simp only [put_lit, put_none, List.set_cons_succ, List.set_cons_zero]
                          refine rt_quiet (.int .i64 (rk : Int)) rfl rfl (fun W' hC => by simp [go_sem, hC.1.cell (i := 0) rfl]) ?_
                          simp only [put_lit, put_none, List.set_cons_succ, List.set_cons_zero]
                          refine rt_quiet (.int .i64 (j : Int)) rfl rfl (fun W' hC => by simp [go_sem]) ?_
                          simp only [put_lit, put_none, List.set_cons_succ, List.set_cons_zero]
                          refine rt_quiet (.int .i64 (-1 - (j : Int))) rfl rfl (fun W' hC => by simp [go_sem]; rw [IntKind.wrap_i64]; omega) ?_
                          simp only [put_lit, put_none, List.set_cons_succ, List.set_cons_zero]
                          refine rt_quiet (.pointer (some ⟨q, 0, none⟩)) rfl rfl (fun W' hC => by simp [go_sem, hC.2.1.cell (i := 0) rfl]) ?_
                          simp only [put_lit, put_none, List.set_cons_succ, List.set_cons_zero]
                          refine rt_quiet (.pointer (some ⟨q, 0, none⟩)) rfl rfl (fun W' hC => by simp [go_sem]) ?_
                          simp only [put_lit, put_none, List.set_cons_succ, List.set_cons_zero]
                          refine rt_quiet (.pointer (some ⟨q, 0, none⟩)) rfl rfl (fun W' hC => by simp [go_sem]) ?_
                          simp only [put_lit, put_none, List.set_cons_succ, List.set_cons_zero]
                          refine rt_quiet (.pointer (some ⟨q, 1, none⟩)) rfl rfl (fun W' hC => by simp [go_sem]) ?_
                          simp only [put_lit, put_none, List.set_cons_succ, List.set_cons_zero]
                          refine rt_quiet (.slice (some ⟨gg, 0, none⟩) bs.length c) rfl rfl (fun W' hC => by simp [go_sem, hC.2.2.1.cell (i := 1) rfl]) ?_
                          simp only [put_lit, put_none, List.set_cons_succ, List.set_cons_zero]
                          refine rt_quiet (.pointer (some ⟨gn, 0, none⟩)) rfl rfl (fun W' hC => by simp [go_sem]) ?_
                          simp only [put_lit, put_none, List.set_cons_succ, List.set_cons_zero]
                          refine rt_quiet (.int .i64 (rk : Int)) rfl rfl (fun W' hC => by simp [go_sem, hC.1.cell (i := 0) rfl]) ?_
                          simp only [put_lit, put_none, List.set_cons_succ, List.set_cons_zero]
                          refine rt_quiet (.pointer (some ⟨gg, rk * 6, none⟩)) rfl rfl (fun W' hC => by simp [go_sem, hrk]) ?_
                          simp only [put_lit, put_none, List.set_cons_succ, List.set_cons_zero]
                          refine rt_quiet (.pointer (some ⟨gg, rk * 6 + 1, none⟩)) rfl rfl (fun W' hC => by simp [go_sem]) ?_
                          simp only [put_lit, put_none, List.set_cons_succ, List.set_cons_zero]
                          refine rt_quiet (.slice Ai2 y.ins.length ci2) rfl rfl (fun W' hC => by simp [go_sem, hC.2.2.2]) ?_
                          simp only [put_lit, put_none, List.set_cons_succ, List.set_cons_zero]
                          refine rt_quiet (.int .i64 (y.ins.length : Int)) rfl rfl (fun W' hC => by simp [go_sem]) ?_
                          simp only [put_lit, put_none, List.set_cons_succ, List.set_cons_zero]
                          refine rt_quiet (.int .i64 (i : Int)) rfl rfl (fun W' hC => by simp [go_sem]) ?_
                          simp only [put_lit, put_none, List.set_cons_succ, List.set_cons_zero]
                          refine fin_call (w' := wn.drew) rfl rfl (by simp [go_sem]) ((use_calls (hUn.ext0 ((Ext.refl _ _).drew)) hnd hdl nval (rk : Int) (-1 - (j : Int)) (y.ins.length : Int) (i : Int)).mono ?_)
                          rintro e w8 ⟨rfl, hx12⟩
                          have hx13 : Ext [] wz w8 := (hx11.nil hxn).nil (((Ext.refl [] wn).drew).nil hx12)
                          cases hu : useB params mk (domF idom) nval (rk : Int) (y.ins.length : Int) with
                          | false =>
                            rw [hu, runC_false] at HF3
                            refine .inr ⟨_, rfl, ?_⟩
                            simp only [Exit.then]
                            go_wp2
                            refine ⟨rfl, ?_⟩
                            exact Hfin.out _ _ (by rw [HF3.out]; rfl) (hx6.nil (((hx8.nil hx9).nil (hxq.nil hx10)).nil hx13))
                          | true =>
                            rw [hu, runC_true] at HF3
                            refine .inl ⟨_, rfl, ?_⟩
                            simp only [put_lit, put_none, List.set_cons_succ, List.set_cons_zero]
                            go_wp2
                            go_roundg (gk - 1)
                            case measure => have := HK3.out; omega
                            case rel => exact ⟨k + 1, by go_num, hlt3, by have := HK3.out; simp only [Hid]; omega, hx13, HF3⟩
                        · have hke : k = p.ins.length := by omega
                          subst hke
                          rw [List.drop_length, List.map_nil, List.nil_append] at HF3
                          go_wp2
                          go_roundg (q1 - 1)
                          case measure => have := HK2.out; omega
                          case rel => exact ⟨j + 1, by go_num, by omega, by have := HK2.out; simp only [Hid]; omega, (hx9.nil (hxq.nil hx10)).nil hx11, HF3⟩
            · have hje : j = x.phis.length := by omega
              subst hje
              have hde : ((List.range x.phis.length).map (phiU params mk (domF idom) bs i x)).drop x.phis.length = [] := drop_map_len _ _
              rw [hde, HR.out, List.flatten_nil, List.nil_append, List.append_assoc] at HF2
              have HF4 : Hid (runC FF = runC ((((List.range x.ins.length).map (insU params mk (domF idom) i x)).drop 0).flatten ++ (x.term.args.map (argU params mk (domF idom) i x.ins.length) ++ B.flatten))) := HF2
              clear HF2 HR hde
              obtain ⟨w9, hw9⟩ : ∃ x, x = wr := ⟨_, rfl⟩
              subst hw9
              have hb9 := hblk.ext hx9 (by simp)
              have f1 := hb9.cell (i := 1) rfl
              go_wp2
              go_loopg [141] x.ins.length (fun k vi wr2 => ∃ (j : Nat), vi = .int .i64 (j : Int) ∧ j ≤ x.ins.length ∧ Hid (j + k = x.ins.length) ∧ Ext [] w9 wr2 ∧
                Hid (runC FF = runC ((((List.range x.ins.length).map (insU params mk (domF idom) i x)).drop j).flatten ++ (x.term.args.map (argU params mk (domF idom) i x.ins.length) ++ B.flatten))))
              case atStart => exact ⟨0, rfl, by omega, by simp [Hid], Ext.refl _ _, HF4⟩
              case round =>
                obtain ⟨j, rfl, hj, HK2, hx10, HF5⟩ := hrel
                obtain ⟨q1, hq1⟩ : ∃ x, x = gk := ⟨_, rfl⟩
                subst hq1
                clear HF4
                by_cases hlt2 : j < x.ins.length
                · obtain ⟨gp, Sj, cs, rfl, hgp, _, ⟨vj, rfl, hvj⟩, hcj⟩ := ((hbc1.i.ext0 hx9).ext0 hx10).cells j hlt2
                  have e0 := hcj 0 _ rfl
                  have e1' := hcj 1 _ rfl
                  have e2 := hcj 2 _ rfl
                  have e3 := hcj 3 _ rfl
                  have e4 := hcj 4 _ rfl
                  simp only [kIns, Nat.add_zero] at e0 e1' e2 e3 e4
                  have hph : ((List.range x.ins.length).map (insU params mk (domF idom) i x)).drop j = insU params mk (domF idom) i x j :: ((List.range x.ins.length).map (insU params mk (domF idom) i x)).drop (j + 1) := drop_map_range _ _ _ hlt2
                  have hpu : insU params mk (domF idom) i x j = x.ins[j].args.map (argU params mk (domF idom) i j) := by
                    rw [insU]; simp [List.getD, hlt2]
                  rw [hph, hpu, List.flatten_cons, List.append_assoc] at HF5
                  clear hph hpu hcj
                  have hsl := Hag1.out x.ins[j] (List.getElem_mem hlt2)
                  generalize x.ins[j] = s at *
                  obtain ⟨Av, cv, rfl, _⟩ := hvj.shape
                  obtain ⟨gq, hgq⟩ : ∃ gq, gq = wr.heap.size := ⟨_, rfl⟩
                  obtain ⟨wq, hwq⟩ : ∃ wq, wq = wr.alloc (.cells #[.int .i64 s.op, .int .i64 s.dst, .int .i64 s.two, .slice Av s.args.length cv, .int .i32 s.imm] 54) := ⟨_, rfl⟩
                  have hxq : Ext [] wr wq := by rw [hwq]; exact (Ext.refl _ _).alloc _
                  have hbq : Blk wq gq 54 #[.int .i64 s.op, .int .i64 s.dst, .int .i64 s.two, .slice Av s.args.length cv, .int .i32 s.imm] := by rw [hwq, hgq]; exact Blk.new _ _ _
                  have g3 := hbq.cell (i := 3) rfl
                  have hvq := hvj.ext0 hxq
                  go_wp2
                  rw [← hwq, ← hgq]
                  clear e0 e1' e2 e3 e4 hwq hgq
                  go_wp2
                  have HF6 : Hid (runC FF = runC ((s.args.drop 0).map (argU params mk (domF idom) i j) ++ ((((List.range x.ins.length).map (insU params mk (domF idom) i x)).drop (j + 1)).flatten ++ (x.term.args.map (argU params mk (domF idom) i x.ins.length) ++ B.flatten)))) := HF5
                  clear HF5
                  go_loopg [149] s.args.length (fun kk vi wr2 => ∃ (k : Nat), vi = .int .i64 (k : Int) ∧ k ≤ s.args.length ∧ Hid (k + kk = s.args.length) ∧ Ext [] wq wr2 ∧
                    Hid (runC FF = runC ((s.args.drop k).map (argU params mk (domF idom) i j) ++ ((((List.range x.ins.length).map (insU params mk (domF idom) i x)).drop (j + 1)).flatten ++ (x.term.args.map (argU params mk (domF idom) i x.ins.length) ++ B.flatten)))))
                  case atStart => exact ⟨0, rfl, by omega, by simp [Hid], Ext.refl _ _, HF6⟩
                  case round =>
                    obtain ⟨k, rfl, hk, HK3, hx11, HF7⟩ := hrel
                    clear HF6
                    by_cases hlt3 : k < s.args.length
                    · obtain ⟨gc, cc, hv, hS, hc, _⟩ := (hvq.ext0 hx11).cell k hlt3
                      cases hv
                      rw [List.drop_eq_getElem_cons hlt3, List.map_cons, List.cons_append] at HF7
                      generalize s.args[k] = v at *
                      have hxw := (((hx8.nil hx9).nil hx10).nil hxq).nil hx11
                      go_wp2_with fail
                      refine (use_calls (hU6.ext0 hxw) hnd hdl v (i : Int) (j : Int) (j : Int) (i : Int)).mono ?_
                      rintro e w8 ⟨rfl, hx12⟩
                      cases hu : useB params mk (domF idom) v (i : Int) (j : Int) with
                      | false =>
                        rw [argU, hu, runC_false] at HF7
                        simp only [runC, endC]
                        go_wp2
                        refine ⟨rfl, ?_⟩
                        exact Hfin.out _ _ (by rw [HF7.out]; rfl) (hx6.nil (hxw.nil hx12))
                      | true =>
                        rw [argU, hu, runC_true] at HF7
                        simp only [runC, endC]
                        go_wp2
                        go_roundg (gk - 1)
                        case measure => have := HK3.out; omega
                        case rel => exact ⟨k + 1, by go_num, hlt3, by have := HK3.out; simp only [Hid]; omega, hx11.nil hx12, HF7⟩
                    · have hke : k = s.args.length := by omega
                      subst hke
                      rw [List.drop_length, List.map_nil, List.nil_append] at HF7
                      go_wp2
                      go_roundg (q1 - 1)
                      case measure => have := HK2.out; omega
                      case rel => exact ⟨j + 1, by go_num, by omega, by have := HK2.out; simp only [Hid]; omega, (hx10.nil hxq).nil hx11, HF7⟩
                · have hje : j = x.ins.length := by omega
                  subst hje
                  have hde : ((List.range x.ins.length).map (insU params mk (domF idom) i x)).drop x.ins.length = [] := drop_map_len _ _
                  rw [hde, List.flatten_nil, List.nil_append] at HF5
                  clear hde
                  obtain ⟨w10, hw10⟩ : ∃ x, x = wr := ⟨_, rfl⟩
                  subst hw10
                  have hb10 := hb9.ext hx10 (by simp)
                  have f3 := hb10.cell (i := 3) rfl
                  have HF8 : Hid (runC FF = runC ((x.term.args.drop 0).map (argU params mk (domF idom) i x.ins.length) ++ B.flatten)) := HF5
                  clear HF5
                  go_wp2
                  go_loopg [166] x.term.args.length (fun kk vi wr2 => ∃ (k : Nat), vi = .int .i64 (k : Int) ∧ k ≤ x.term.args.length ∧ Hid (k + kk = x.term.args.length) ∧ Ext [] w10 wr2 ∧
                    Hid (runC FF = runC ((x.term.args.drop k).map (argU params mk (domF idom) i x.ins.length) ++ B.flatten)))
                  case atStart => exact ⟨0, rfl, by omega, by simp [Hid], Ext.refl _ _, HF8⟩
                  case round =>
                    obtain ⟨k, rfl, hk, HK3, hx11, HF7⟩ := hrel
                    clear HF8
                    by_cases hlt3 : k < x.term.args.length
                    · obtain ⟨gc, cc, hv, hS, hc, _⟩ := ((hbc1.a.ext0 (hx9.nil hx10)).ext0 hx11).cell k hlt3
                      cases hv
                      rw [List.drop_eq_getElem_cons hlt3, List.map_cons, List.cons_append] at HF7
                      generalize x.term.args[k] = v at *
                      have hxw := ((hx8.nil hx9).nil hx10).nil hx11
                      have hb11 := hb10.ext hx11 (by simp)
                      have h1c := hb11.cell (i := 1) rfl
                      go_wp2_with fail
                      refine (use_calls (hU6.ext0 hxw) hnd hdl v (i : Int) (x.ins.length : Int) (x.ins.length : Int) (i : Int)).mono ?_
                      rintro e w8 ⟨rfl, hx12⟩
                      cases hu : useB params mk (domF idom) v (i : Int) (x.ins.length : Int) with
                      | false =>
                        rw [argU, hu, runC_false] at HF7
                        simp only [runC, endC]
                        go_wp2
                        refine ⟨rfl, ?_⟩
                        exact Hfin.out _ _ (by rw [HF7.out]; rfl) (hx6.nil (hxw.nil hx12))
                      | true =>
                        rw [argU, hu, runC_true] at HF7
                        simp only [runC, endC]
                        go_wp2
                        go_roundg (gk - 1)
                        case measure => have := HK3.out; omega
                        case rel => exact ⟨k + 1, by go_num, hlt3, by have := HK3.out; simp only [Hid]; omega, hx11.nil hx12, HF7⟩
                    · have hke : k = x.term.args.length := by omega
                      subst hke
                      rw [List.drop_length, List.map_nil, List.nil_append] at HF7
                      go_wp2
                      go_roundg (q0 - 1)
                      case measure => have := HK.out; omega
                      case rel => exact ⟨i + 1, by go_num, by omega, by have := HK.out; simp only [Hid]; omega, ((hx7.nil hxb).nil (hx9.nil hx10)).nil hx11, by rw [HB.out]; exact HF7⟩
        · have hie : i = bs.length := by omega
          subst hie
          have hde : (blocksU params mk (domF idom) bs).drop bs.length = [] := drop_map_len _ _
          rw [hde] at HF
          have hre : Hid (runC FF = none) := HF
          clear HF
          go_wp2
          go_end0
          exact Hfin.out _ _ (by rw [hre.out]; rfl) (hx6.nil hx7)
end Go.Proofs.Ytkmgbejhbkbaoaa

/- The program's check, whole. -/
namespace Go.Proofs.Ytkmgbejhbkbaoaa
set_option linter.unusedSimpArgs false
set_option linter.unusedVariables false
open Go.RowKit

set_option maxRecDepth 20000 in
set_option maxHeartbeats 1600000 in
theorem catch_calls {w : World} {p0 p1 p2 : Nat} {x0 x1 x2 : Value} (h0 : Blk w p0 29 #[x0]) (h1 : Blk w p1 3 #[x1]) (h2 : Blk w p2 3 #[x2]) (h01 : p0 ≠ p1) (h02 : p0 ≠ p2) (h12 : p1 ≠ p2) (t : Tro) (older : List PanicEntry) :
    CallsD Try.prog 47 #[.pointer (some ⟨p0, 0, none⟩), .pointer (some ⟨p1, 0, none⟩), .pointer (some ⟨p2, 0, none⟩)] (.panicking ({ v := .iface 96 (.agg #[.int .i64 t.1, .int .i64 t.2.1, .int .i64 t.2.2]), recovered := false } :: older)) w fun e u' w' =>
      e = .returned (.tuple #[]) ∧ u' = .panicking ({ v := .iface 96 (.agg #[.int .i64 t.1, .int .i64 t.2.1, .int .i64 t.2.2]), recovered := true } :: older) ∧
      Blk w' p0 29 #[.int .i64 t.1] ∧ Blk w' p1 3 #[.int .i64 t.2.1] ∧ Blk w' p2 3 #[.int .i64 t.2.2] ∧ Ext [p0, p1, p2] w w' := by
  refine callsD_of_wpS Try.func47 rfl fun c₀ cs hu => ?_
  apply wpS_seq
  apply wpS_region
  simp [wpOpsS, go_sem, recoverD, hu, Try.ntmps47, Exit.thenS]
  have hta : ∀ (v : Value) (w : World), (Instr.typeAssert (.iface 96 v) 20 96 true).run Try.prog w = .ok (.tuple #[v, .bool true]) w := fun v w => by kernel_rfl
  have hu' := Lib.hid hu
  clear hu
  refine wpS_of_wp ?_
  generalize hX : Value.iface 96 (.agg #[.int .i64 t.1, .int .i64 t.2.1, .int .i64 t.2.2]) = X
  change Code.wp _ _ _ ⟨#[.pointer (some ⟨p0, 0, none⟩), .pointer (some ⟨p1, 0, none⟩), .pointer (some ⟨p2, 0, none⟩), undef, undef, undef, X, undef, undef, undef, undef, undef, undef, undef, undef, undef, undef, undef], []⟩ _
  subst hX
  obtain ⟨w1, hw1⟩ : ∃ w1, w1 = w.alloc (.cells #[.int .i64 t.1, .int .i64 t.2.1, .int .i64 t.2.2] 96) := ⟨_, rfl⟩
  have hx1 : Ext [] w w1 := by rw [hw1]; exact (Ext.refl _ _).alloc _
  have hb1 : Blk w1 w.heap.size 96 #[.int .i64 t.1, .int .i64 t.2.1, .int .i64 t.2.2] := by rw [hw1]; exact Blk.new _ _ _
  have l0 := h0.lt
  have l1 := h1.lt
  have l2 := h2.lt
  go_wp2
  rw [← hw1]
  clear hw1
  have g0 := (h0.ext hx1 (by simp)).drew
  have g1 := (h1.ext hx1 (by simp)).drew
  have g2 := (h2.ext hx1 (by simp)).drew
  have hd1 := hb1.drew
  have k0 := g0.set 0 (.int .i64 t.1)
  have k1 := (g1.far (p := ⟨p0, 0, none⟩) (fun e => h01 e.symm) (.int .i64 t.1))
  have k2 := (g2.far (p := ⟨p0, 0, none⟩) (fun e => h02 e.symm) (.int .i64 t.1))
  have kd := (hd1.far (p := ⟨p0, 0, none⟩) (by simp; omega) (.int .i64 t.1))
  have m0 := k0.far (p := ⟨p1, 0, none⟩) h01 (.int .i64 t.2.1)
  have m1 := k1.set 0 (.int .i64 t.2.1)
  have m2 := k2.far (p := ⟨p1, 0, none⟩) (fun e => h12 e.symm) (.int .i64 t.2.1)
  have md := kd.far (p := ⟨p1, 0, none⟩) (by simp; omega) (.int .i64 t.2.1)
  have n0 := m0.far (p := ⟨p2, 0, none⟩) h02 (.int .i64 t.2.2)
  have n1 := m1.far (p := ⟨p2, 0, none⟩) h12 (.int .i64 t.2.2)
  have n2 := m2.set 0 (.int .i64 t.2.2)
  have nd := md.far (p := ⟨p2, 0, none⟩) (by simp; omega) (.int .i64 t.2.2)
  refine wp_region_rt (fun W => Blk W w.heap.size 96 #[.int .i64 t.1, .int .i64 t.2.1, .int .i64 t.2.2]) (.q 0 (.q 1 (.q 2 (.q 3 (.q 4 (.q 5 (.e 6 (.e 7 (.e 8 .nil))))))))) (by kernel_rfl) (by kernel_rfl) hd1 ?_
  refine rt_quiet (.pointer (some ⟨w.heap.size, 0, none⟩)) rfl rfl (fun W' hC => by simp [go_sem]) ?_
  simp only [put_lit, put_none, List.set_cons_succ, List.set_cons_zero]
  refine rt_quiet (.int .i64 t.1) rfl rfl (fun W' hC => by simp [go_sem, hC.cell (i := 0) rfl]) ?_
  simp only [put_lit, put_none, List.set_cons_succ, List.set_cons_zero]
  refine rt_quiet (.pointer (some ⟨w.heap.size, 1, none⟩)) rfl rfl (fun W' hC => by simp [go_sem]) ?_
  simp only [put_lit, put_none, List.set_cons_succ, List.set_cons_zero]
  refine rt_quiet (.int .i64 t.2.1) rfl rfl (fun W' hC => by simp [go_sem, hC.cell (i := 1) rfl]) ?_
  simp only [put_lit, put_none, List.set_cons_succ, List.set_cons_zero]
  refine rt_quiet (.pointer (some ⟨w.heap.size, 2, none⟩)) rfl rfl (fun W' hC => by simp [go_sem]) ?_
  simp only [put_lit, put_none, List.set_cons_succ, List.set_cons_zero]
  refine rt_quiet (.int .i64 t.2.2) rfl rfl (fun W' hC => by simp [go_sem, hC.cell (i := 2) rfl]) ?_
  simp only [put_lit, put_none, List.set_cons_succ, List.set_cons_zero]
  refine s_eff0 (w' := w1.drew.setCell ⟨p0, 0, none⟩ (.int .i64 t.1)) rfl rfl (by simp [go_sem, g0.cell (i := 0) rfl, g0.frozen 0]) ⟨kd, ?_⟩
  simp only [put_lit, put_none, List.set_cons_succ, List.set_cons_zero]
  refine s_eff0 (w' := (w1.drew.setCell ⟨p0, 0, none⟩ (.int .i64 t.1)).setCell ⟨p1, 0, none⟩ (.int .i64 t.2.1)) rfl rfl (by simp [go_sem, (h1.ext hx1 (by simp)).cell (i := 0) rfl, (h1.ext hx1 (by simp)).frozen 0]) ⟨md, ?_⟩
  simp only [put_lit, put_none, List.set_cons_succ, List.set_cons_zero]
  refine s_eff0 (w' := ((w1.drew.setCell ⟨p0, 0, none⟩ (.int .i64 t.1)).setCell ⟨p1, 0, none⟩ (.int .i64 t.2.1)).setCell ⟨p2, 0, none⟩ (.int .i64 t.2.2)) rfl rfl (by simp [go_sem, (h2.ext hx1 (by simp)).cell (i := 0) rfl, (h2.ext hx1 (by simp)).frozen 0]) ⟨nd, ?_⟩
  simp only [put_lit, put_none, List.set_cons_succ, List.set_cons_zero]
  refine rt_nil ?_
  have hxx : Ext [p0, p1, p2] w (((w1.drew.setCell ⟨p0, 0, none⟩ (.int .i64 t.1)).setCell ⟨p1, 0, none⟩ (.int .i64 t.2.1)).setCell ⟨p2, 0, none⟩ (.int .i64 t.2.2)) :=
    (((hx1.mono (M' := [p0, p1, p2]) (by simp)).drew.setCell (.inl (by simp)) _).setCell (.inl (by simp)) _).setCell (.inl (by simp)) _
  cases c₀
  have hm := hu'.out
  simp only at hm
  subst hm
  simp only [Exit.inBlock, bodyPostS]
  exact ⟨rfl, _, rfl, _, results_none rfl _ _ _, rfl, rfl, n0, n1, n2, hxx⟩
set_option maxRecDepth 20000 in
theorem idle_calls (w : World) (p0 p1 p2 : Nat) :
    CallsD Try.prog 47 #[.pointer (some ⟨p0, 0, none⟩), .pointer (some ⟨p1, 0, none⟩), .pointer (some ⟨p2, 0, none⟩)] .returning w fun e u' w' => e = .returned (.tuple #[]) ∧ u' = .returning ∧ w' = w := by
  refine callsD_of_wpS Try.func47 rfl fun c₀ cs hu => ?_
  apply wpS_seq
  apply wpS_region
  simp [wpOpsS, go_sem, recoverD, hu, Try.ntmps47, Exit.thenS]
  have hu' := Lib.hid hu
  clear hu
  refine wpS_of_wp ?_
  change Code.wp _ _ _ ⟨#[.pointer (some ⟨p0, 0, none⟩), .pointer (some ⟨p1, 0, none⟩), .pointer (some ⟨p2, 0, none⟩), undef, undef, undef, .nilIface, undef, undef, undef, undef, undef, undef, undef, undef, undef, undef, undef], []⟩ _
  go_wp2
  cases c₀
  have hm := hu'.out
  simp only at hm
  subst hm
  simp only [Exit.inBlock, bodyPostS]
  refine ⟨by trivial, _, rfl, _, results_none rfl _ _ _, ?_⟩
  simp
end Go.Proofs.Ytkmgbejhbkbaoaa

/- The program's check, whole. -/
namespace Go.Proofs.Ytkmgbejhbkbaoaa
set_option linter.unusedSimpArgs false
set_option linter.unusedVariables false
open Go.RowKit
def headC (f : JFunc) : List Ck :=
  [(decide (0 ≤ f.params ∧ f.params ≤ 4), (1, 0, 0)), (decide (0 < f.blocks.length), (14, 0, 0)), (decide ((f.blocks.length : Int) ≤ 512) && decide (((f.blocks.length + thingsN f.blocks : Nat) : Int) ≤ 4096), (2, 0, 0))]
def frontC (f : JFunc) : List Ck := headC f ++ shapeC f.params f.blocks
def funcC (f : JFunc) (idom : List Int) : List Ck := frontC f ++ usesC f.params (madeAll f.blocks) (domF idom) f.blocks
def resC : Option Tro → Value
  | none => .tuple #[.int .i64 0, .int .i64 0, .int .i64 0]
  | some t => .tuple #[.int .i64 t.1, .int .i64 t.2.1, .int .i64 t.2.2]
def FuncPost (w : World) (f : JFunc) (e : Ending) (w' : World) : Prop := ∃ idom, (runC (frontC f) = none → AllR (ofF f.blocks) → IdomOk (ofF f.blocks) idom) ∧ e = .returned (resC (runC (funcC f idom))) ∧ Ext [] w w'
theorem funcC_front {f : JFunc} {t : Tro} (h : runC (frontC f) = some t) (idom : List Int) : runC (funcC f idom) = some t := by rw [funcC, runC_append, h]
theorem FuncPost.front {w w' : World} {f : JFunc} {t : Tro} (h : runC (frontC f) = some t) (hx : Ext [] w w') : FuncPost w f (.returned (resC (some t))) w' :=
  ⟨[], fun h2 => by (rw [h] at h2; cases h2), by rw [funcC_front h], hx⟩

set_option maxRecDepth 20000 in
theorem door_panic {W : World} {p0 p1 p2 : Nat} {x0 x1 x2 : Value} (h0 : Blk W p0 29 #[x0]) (h1 : Blk W p1 3 #[x1]) (h2 : Blk W p2 3 #[x2]) (h01 : p0 ≠ p1) (h02 : p0 ≠ p2) (h12 : p1 ≠ p2) (t : Tro) {R : Ending → World → Prop}
    (hR : ∀ W', Ext [p0, p1, p2] W W' → R (.returned (resC (some t))) W') (a0 a1 : Value) (rest : List Value) :
    bodyPostD Try.prog Try.f30 R (.panic [{ v := .iface 96 (.agg #[.int .i64 t.1, .int .i64 t.2.1, .int .i64 t.2.2]), recovered := false }])
      { tmps := (a0 :: a1 :: .pointer (some ⟨p0, 0, none⟩) :: .pointer (some ⟨p1, 0, none⟩) :: .pointer (some ⟨p2, 0, none⟩) :: rest).toArray,
        defers := [{ target := Target.fn (Fn.func 47) #[.pointer (some ⟨p0, 0, none⟩), .pointer (some ⟨p1, 0, none⟩), .pointer (some ⟨p2, 0, none⟩)], args := #[] }] } W := by
  refine leaves_cons (f := 47) (args := #[.pointer (some ⟨p0, 0, none⟩), .pointer (some ⟨p1, 0, none⟩), .pointer (some ⟨p2, 0, none⟩)]) (by simp) (by simp [go_sem]) ?_
  refine (catch_calls h0 h1 h2 h01 h02 h12 t []).mono ?_
  rintro e u' w'' ⟨rfl, rfl, g0, g1, g2, hx⟩
  have c0 := g0.cell (i := 0) rfl
  have c1 := g1.cell (i := 0) rfl
  have c2 := g2.cell (i := 0) rfl
  have := hR w'' hx
  simp [Leaves, settle, results, Try.results30, go_sem, c0, c1, c2]
  exact this
set_option maxRecDepth 20000 in
theorem door_ret {W : World} {p0 p1 p2 : Nat} {x0 x1 x2 : Value} (h0 : Blk W p0 29 #[x0]) (h1 : Blk W p1 3 #[x1]) (h2 : Blk W p2 3 #[x2]) {R : Ending → World → Prop}
    (hR : R (.returned (.tuple #[x0, x1, x2])) W) (a0 a1 : Value) (rest : List Value) :
    bodyPostD Try.prog Try.f30 R .ret
      { tmps := (a0 :: a1 :: .pointer (some ⟨p0, 0, none⟩) :: .pointer (some ⟨p1, 0, none⟩) :: .pointer (some ⟨p2, 0, none⟩) :: rest).toArray,
        defers := [{ target := Target.fn (Fn.func 47) #[.pointer (some ⟨p0, 0, none⟩), .pointer (some ⟨p1, 0, none⟩), .pointer (some ⟨p2, 0, none⟩)], args := #[] }] } W := by
  refine leaves_cons (f := 47) (args := #[.pointer (some ⟨p0, 0, none⟩), .pointer (some ⟨p1, 0, none⟩), .pointer (some ⟨p2, 0, none⟩)]) (by simp) (by simp [go_sem]) ?_
  refine (idle_calls W p0 p1 p2).mono ?_
  rintro e u' w'' ⟨rfl, rfl, rfl⟩
  have c0 := h0.cell (i := 0) rfl
  have c1 := h1.cell (i := 0) rfl
  have c2 := h2.cell (i := 0) rfl
  simp [Leaves, settle, results, Try.results30, go_sem, c0, c1, c2]
  exact hR

theorem thingsN_take {bs : List JBlock} {i : Nat} (hi : i < bs.length) : thingsN (bs.take (i + 1)) = thingsN (bs.take i) + (bs[i].phis.length + bs[i].ins.length) := by
  unfold thingsN
  rw [List.take_succ_eq_append_getElem hi, List.map_append, List.sum_append]; simp
theorem thingsN_take_le (bs : List JBlock) (i : Nat) : thingsN (bs.take i) ≤ thingsN bs := by
  have : thingsN bs = thingsN (bs.take i) + thingsN (bs.drop i) := by
    unfold thingsN
    rw [← List.sum_append, ← List.map_append, List.take_append_drop]
  omega
theorem thingsN_mem {bs : List JBlock} {x : JBlock} (hx : x ∈ bs) : x.phis.length + x.ins.length ≤ thingsN bs := by
  obtain ⟨i, hi, rfl⟩ := List.getElem_of_mem hx
  have := thingsN_take hi
  have := thingsN_take_le bs (i + 1)
  omega

set_option maxRecDepth 20000 in
set_option maxHeartbeats 8000000 in
theorem func_calls {w : World} {S : List Nat} {v : Value} {f : JFunc} (h : FnR w S v f) (hn : f.blocks.length ≤ 1073741824) (hs : thingsN f.blocks ≤ 1073741824) :
    Calls Try.prog 30 #[v] w (FuncPost w f) := by
  have hmf : ∀ (fn : Fn) (first cap : Array Value) (w : World), (Instr.makeFunc fn first cap).run Try.prog w = .ok (.func fn first cap) w := fun _ _ _ _ => rfl
  obtain ⟨vb, rfl, hb⟩ := h
  obtain ⟨A, c, rfl, hcap⟩ := hb.shape
  obtain ⟨params, bs⟩ := f
  simp only at *
  obtain ⟨W0, hW0⟩ : ∃ W0, W0 = (((w.alloc (.cells #[.int .i64 params, .slice A bs.length c] 26)).alloc (.cells #[.int .i64 0] 29)).alloc (.cells #[.int .i64 0] 3)).alloc (.cells #[.int .i64 0] 3) := ⟨_, rfl⟩
  have hx0 : Ext [] w W0 := by rw [hW0]; exact (((((Ext.refl [] w).alloc _).alloc _).alloc _).alloc _)
  have hB : Blk W0 w.heap.size 26 #[.int .i64 params, .slice A bs.length c] := by rw [hW0]; exact ((((Blk.new _ _ _).alloc _).alloc _).alloc _)
  have hP0 : Blk W0 (w.heap.size + 1) 29 #[.int .i64 0] := by
    rw [hW0]; exact (Blk.alloc (Blk.alloc (by simpa using Blk.new (w.alloc (.cells #[.int .i64 params, .slice A bs.length c] 26)) #[.int .i64 0] 29) _) _)
  have hP1 : Blk W0 (w.heap.size + 1 + 1) 3 #[.int .i64 0] := by
    rw [hW0]; exact (Blk.alloc (by simpa using Blk.new ((w.alloc (.cells #[.int .i64 params, .slice A bs.length c] 26)).alloc (.cells #[.int .i64 0] 29)) #[.int .i64 0] 3) _)
  have hP2 : Blk W0 (w.heap.size + 1 + 1 + 1) 3 #[.int .i64 0] := by
    rw [hW0]; simpa using Blk.new (((w.alloc (.cells #[.int .i64 params, .slice A bs.length c] 26)).alloc (.cells #[.int .i64 0] 29)).alloc (.cells #[.int .i64 0] 3)) #[.int .i64 0] 3
  have c0 := hB.cell (i := 0) rfl
  have c1 := hB.cell (i := 1) rfl
  have hsz : W0.heap.size = w.heap.size + 1 + 1 + 1 + 1 := by rw [hW0]; simp
  have Hsz := Lib.hid hsz
  clear hsz
  have hM : ∀ {W W'}, Ext [] w W → Ext [w.heap.size + 1, w.heap.size + 1 + 1, w.heap.size + 1 + 1 + 1] W W' → Ext [] w W' := fun h1 h2 => h1.trans h2 (fun x hx => .inr (by simp at hx; omega))
  have HM : Hid (∀ W W', Ext [] w W → Ext [w.heap.size + 1, w.heap.size + 1 + 1, w.heap.size + 1 + 1 + 1] W W' → Ext [] w W') := fun W W' h1 h2 => hM h1 h2
  clear hM
  have H0 : Hid (∀ t, runC (frontC ⟨params, bs⟩) = some t → ∀ W', Ext [] w W' → FuncPost w ⟨params, bs⟩ (.returned (resC (some t))) W') := fun t h W' hx => FuncPost.front h hx
  have HR1 : Hid (runC (frontC ⟨params, bs⟩) = runC (headC ⟨params, bs⟩ ++ shapeC params bs)) := rfl
  go_enter_defers Try.func30, Try.ntmps30
  go_wp2_with fail
  rw [← hW0]
  clear hW0
  refine (within_calls W0 params 0 4).mono ?_
  rintro e w2 ⟨rfl, rfl⟩
  rw [headC] at HR1
  simp only at HR1
  cases hd : decide (0 ≤ params ∧ params ≤ 4) with
  | false =>
    rw [hd, List.cons_append, runC_false] at HR1
    clear hd
    go_wp2_with fail
    refine (must_calls _ false (1, 0, 0)).mono ?_
    rintro e w3 ⟨rfl, rfl⟩
    simp only [runC, endC]
    go_wp2
    exact door_panic hP0 hP1 hP2 (by omega) (by omega) (by omega) (1, 0, 0) (fun W' hx => H0.out _ HR1.out W' (HM.out _ _ hx0 hx)) _ _ _
  | true =>
    rw [hd, List.cons_append, runC_true] at HR1
    clear hd
    go_wp2_with fail
    refine (must_calls _ true (1, 0, 0)).mono ?_
    rintro e w3 ⟨rfl, rfl⟩
    simp only [runC, endC]
    go_wp2_with fail
    refine (must_calls _ (decide (0 < bs.length)) (14, 0, 0)).mono ?_
    rintro e w4 ⟨rfl, rfl⟩
    cases hd : decide (0 < bs.length) with
    | false =>
      rw [hd, List.cons_append, runC_false] at HR1
      clear hd
      simp only [runC, endC]
      go_wp2
      exact door_panic hP0 hP1 hP2 (by omega) (by omega) (by omega) (14, 0, 0) (fun W' hx => H0.out _ HR1.out W' (HM.out _ _ hx0 hx)) _ _ _
    | true =>
      rw [hd, List.cons_append, runC_true] at HR1
      have h0 : 0 < bs.length := by simpa using hd
      clear hd
      simp only [runC, endC]
      go_wp2
      go_loopg [5, 25] bs.length (fun k vn vi wr => ∃ (i : Nat), vi = .int .i64 (i : Int) ∧ vn = .int .i64 ((bs.length + thingsN (bs.take i) : Nat) : Int) ∧ i ≤ bs.length ∧ Hid (i + k = bs.length) ∧ Ext [] w4 wr)
      case atStart => exact ⟨0, rfl, by simp [thingsN], by omega, by simp [Hid], Ext.refl _ _⟩
      case round =>
        obtain ⟨i, rfl, rfl, hi, HK, hx⟩ := hrel
        by_cases hlt : i < bs.length
        · obtain ⟨gg, _, Ap, cp, Ai, ci, Aa, ca, At, ct, Sb, Sp, Si, Sa, St, hv, hg, hsub, hbc, b0, b1, b2, b3, b4, b5⟩ := FnR.block ((hb.ext0 hx0).ext0 hx) i hlt
          cases hv
          have ht1 := thingsN_take hlt
          have ht2 := thingsN_take_le bs (i + 1)
          generalize bs[i] = x at *
          obtain ⟨tn, htn⟩ : ∃ tn, thingsN (bs.take i) = tn := ⟨_, rfl⟩
          obtain ⟨tm, htm⟩ : ∃ tm, thingsN (bs.take (i + 1)) = tm := ⟨_, rfl⟩
          rw [htn] at ht1 ⊢
          rw [htm] at ht1 ht2
          have Htm := Lib.hid htm
          have Ht1 := Lib.hid ht1
          have hb1 : bs.length + tn + (x.phis.length + x.ins.length) ≤ 2147483648 := by omega
          clear htn htm ht1
          go_wp2
          go_roundg (gk - 1)
          case measure => have := HK.out; omega
          case rel => exact ⟨i + 1, by go_num, by rw [Htm.out, Ht1.out]; go_num, by omega, by have := HK.out; simp only [Hid]; omega, hx.alloc _⟩
        · have hie : i = bs.length := by omega
          subst hie
          rw [List.take_length]
          have hBr := hB.ext hx (by simp)
          have d0 := hBr.cell (i := 0) rfl
          have d1 := hBr.cell (i := 1) rfl
          have hxr : Ext [] w wr := hx0.nil hx
          obtain ⟨bb, hbb⟩ : ∃ bb, bb = (decide ((bs.length : Int) ≤ 512) && decide (((bs.length + thingsN bs : Nat) : Int) ≤ 4096)) := ⟨_, rfl⟩
          rw [← hbb] at HR1
          have hsp : (¬ bs.length ≤ 512 ∧ bb = false) ∨ (bs.length ≤ 512 ∧ ¬ bs.length + thingsN bs ≤ 4096 ∧ bb = false) ∨ (bs.length ≤ 512 ∧ bs.length + thingsN bs ≤ 4096 ∧ bb = true) := by
            rw [hbb]
            by_cases h1 : bs.length ≤ 512
            · by_cases h2 : bs.length + thingsN bs ≤ 4096
              · exact .inr (.inr ⟨h1, h2, by simp; omega⟩)
              · exact .inr (.inl ⟨h1, h2, by simp; omega⟩)
            · exact .inl ⟨h1, by simp; omega⟩
          clear hbb
          have q0 := hP0.ext hx (by simp)
          have q1 := hP1.ext hx (by simp)
          have q2 := hP2.ext hx (by simp)
          rcases hsp with ⟨h1, rfl⟩ | ⟨h1, h2, rfl⟩ | ⟨h1, h2, rfl⟩
          · rw [List.cons_append, runC_false] at HR1
            go_wp2_with fail
            refine (must_calls _ false (2, 0, 0)).mono ?_
            rintro e w5 ⟨rfl, rfl⟩
            simp only [runC, endC]
            go_wp2
            exact door_panic q0 q1 q2 (by omega) (by omega) (by omega) (2, 0, 0) (fun W' hx' => H0.out _ HR1.out W' (HM.out _ _ hxr hx')) _ _ _
          · rw [List.cons_append, runC_false] at HR1
            have hd2 : decide ((bs.length : Int) + (thingsN bs : Int) ≤ 4096) = false := by simp; omega
            go_wp2_with fail
            refine (must_calls _ false (2, 0, 0)).mono ?_
            rintro e w5 ⟨rfl, rfl⟩
            simp only [runC, endC]
            go_wp2
            exact door_panic q0 q1 q2 (by omega) (by omega) (by omega) (2, 0, 0) (fun W' hx' => H0.out _ HR1.out W' (HM.out _ _ hxr hx')) _ _ _
          · rw [List.cons_append, runC_true, List.nil_append] at HR1
            have hd2 : decide ((bs.length : Int) + (thingsN bs : Int) ≤ 4096) = true := by simp; omega
            go_wp2_with fail
            refine (must_calls _ true (2, 0, 0)).mono ?_
            rintro e w5 ⟨rfl, rfl⟩
            simp only [runC, endC]
            have hmm := @run_makeMap Try.prog
            obtain ⟨wm, hwm⟩ : ∃ wm, wm = (w5.alloc (.map #[] 0)).alloc (.cells #[.int .i64 params, .slice A bs.length c, .map (some w5.heap.size)] 102) := ⟨_, rfl⟩
            obtain ⟨m, hm⟩ : ∃ m, m = w5.heap.size := ⟨_, rfl⟩
            have hxm : Ext [] w5 wm := by rw [hwm]; exact ((Ext.refl _ _).alloc _).alloc _
            have hlk : Look wm (m + 1) m params (.slice A bs.length c) [] := by
              rw [hwm, hm]
              refine ⟨by simpa using Blk.new (w5.alloc (.map #[] 0)) _ _, (MapR.new w5).ext ((Ext.refl [] _).alloc _) (by simp), by omega⟩
            have hlt5 : ∀ k ∈ S, k < m := by rw [hm]; exact (hb.ext0 hxr).lt
            go_wp2_with fail
            rw [← hwm, ← hm]
            clear hwm
            have hxm' : Ext [] w wm := hxr.nil hxm
            have hp : ∀ x ∈ bs, x.phis.length ≤ 4096 ∧ x.ins.length ≤ 4096 := fun x hx => by have := thingsN_mem hx; omega
            have Hp := Lib.hid hp
            clear hp hlt5
            have hwm5 : w.heap.size ≤ m := by rw [hm]; exact hxr.size
            have q0' := q0.ext hxm (by simp)
            have q1' := q1.ext hxm (by simp)
            have q2' := q2.ext hxm (by simp)
            have hqm : w.heap.size + 1 + 1 + 1 < m := by rw [hm]; exact q2.lt
            clear hm
            refine (shape_calls hlk (hb.ext0 hxm') (fun hk => by have := hb.lt m hk; omega) h1 Hp.out).mono ?_
            rintro e w6 ⟨rfl, hx6, hlk6⟩
            have hx6' : Ext [] w w6 := hxm'.trans hx6 (fun x hx => .inr (by simp at hx; omega))
            have q06 := q0'.ext hx6 (by simp; omega)
            have q16 := q1'.ext hx6 (by simp; omega)
            have q26 := q2'.ext hx6 (by simp; omega)
            cases hsc : runC (shapeC params bs) with
            | some t =>
              have HR2 : Hid (runC (frontC ⟨params, bs⟩) = some t) := by rw [Hid, HR1.out, hsc]
              clear hsc
              simp only [endC]
              go_wp2
              exact door_panic q06 q16 q26 (by omega) (by omega) (by omega) t (fun W' hx' => H0.out _ HR2.out W' (HM.out _ _ hx6' hx')) _ _ _
            | none =>
              have hlk7 : Look w6 (m + 1) m params (.slice A bs.length c) (madeAll bs) := hlk6 hsc
              have hnd : ((madeAll bs).map (·.1)).Nodup := thgsC_nodup _ _ hsc (by simp)
              have hto : ∀ x ∈ bs, x.term.to.length ≤ 65 := fun x hx => by
                obtain ⟨i, hi, rfl⟩ := List.getElem_of_mem hx
                exact (termOk_to (shape_term hsc hi).1).1
              have hag : ∀ x ∈ bs, (∀ s ∈ x.ins, s.args.length ≤ 4096) ∧ x.term.args.length ≤ 4096 := fun x hx => by
                obtain ⟨i, hi, rfl⟩ := List.getElem_of_mem hx
                refine ⟨fun s hs => ?_, by have := (termOk_to (shape_term hsc hi).1).2; omega⟩
                obtain ⟨j, hj, rfl⟩ := List.getElem_of_mem hs
                have e : bs[i].ins.getD j default = bs[i].ins[j] := by simp [List.getD, hj]
                have hm : (decide ((opersF bs[i].ins[j].op).1 ≤ (bs[i].ins[j].args.length : Int) ∧ (bs[i].ins[j].args.length : Int) ≤ (opersF bs[i].ins[j].op).2), ((10 : Int), (i : Int), (j : Int))) ∈ (insT i bs[i] j).pre := by
                  simp only [insT, e]; exact .tail _ (.head _)
                have := thgsC_pre _ _ hsc (insT i bs[i] j) (mem_blocksT hi (mem_blockT_iff.2 (.inr (.inl ⟨j, hj, rfl⟩)))) _ hm
                simp only [decide_eq_true_eq] at this
                have h4 : (opersF bs[i].ins[j].op).2 ≤ 4 := by unfold opersF; repeat' split
                                                               all_goals simp
                omega
              have Hto := Lib.hid hto
              have Hag := Lib.hid hag
              have Hnd := Lib.hid hnd
              have HR2 : Hid (runC (frontC ⟨params, bs⟩) = none) := by rw [Hid, HR1.out, hsc]
              clear hsc hlk6 hto hag hnd
              simp only [endC]
              go_wp2_with fail
              refine (uses_calls hlk7 Hnd.out (hb.ext0 hx6') h0 h1 Hp.out Hto.out Hag.out).mono ?_
              rintro e w7 ⟨idom, hid, rfl, hx7⟩
              have hx7' : Ext [] w w7 := hx6'.nil hx7
              have Hidm := Lib.hid hid
              clear hid
              have q07 := q06.ext hx7 (by simp)
              have q17 := q16.ext hx7 (by simp)
              have q27 := q26.ext hx7 (by simp)
              have HF : Hid (runC (funcC ⟨params, bs⟩ idom) = runC (usesC params (madeAll bs) (domF idom) bs)) := by rw [Hid, funcC, runC_append, HR2.out]
              cases hus : runC (usesC params (madeAll bs) (domF idom) bs) with
              | some t =>
                rw [hus] at HF
                clear hus
                simp only [endC]
                go_wp2
                exact door_panic q07 q17 q27 (by omega) (by omega) (by omega) t (fun W' hx' => ⟨idom, fun _ => Hidm.out, by rw [HF.out], HM.out _ _ hx7' hx'⟩) _ _ _
              | none =>
                rw [hus] at HF
                clear hus
                have z0 := q07.set 0 (.int .i64 0)
                have f0 := q07.frozen 0
                have f1 := q17.frozen 0
                have f2 := q27.frozen 0
                have k0 := q07.cell (i := 0) rfl
                have k1 := q17.cell (i := 0) rfl
                have k2 := q27.cell (i := 0) rfl
                simp only [endC]
                go_wp2
                refine door_ret (x0 := .int .i64 0) (x1 := .int .i64 0) (x2 := .int .i64 0) ?_ ?_ ?_ ⟨idom, fun _ => Hidm.out, by rw [HF.out]; rfl, ?_⟩ _ _ _
                · exact ((q07.set 0 (.int .i64 0)).far (p := ⟨_, 0, none⟩) (by simp; try omega) _).far (p := ⟨_, 0, none⟩) (by simp; try omega) _
                · exact ((q17.far (p := ⟨_, 0, none⟩) (by simp; try omega) _).set 0 (.int .i64 0)).far (p := ⟨_, 0, none⟩) (by simp; try omega) _
                · exact ((q27.far (p := ⟨_, 0, none⟩) (by simp; try omega) _).far (p := ⟨_, 0, none⟩) (by simp; try omega) _).set 0 (.int .i64 0)
                · exact ((hx7'.setCell (.inr (by simp; try omega)) _).setCell (.inr (by simp; try omega)) _).setCell (.inr (by simp; try omega)) _
end Go.Proofs.Ytkmgbejhbkbaoaa

/- The program's split: what a function that may be tells. -/
namespace Go.Proofs.Ytkmgbejhbkbaoaa
set_option linter.unusedSimpArgs false
set_option linter.unusedVariables false
open Go.RowKit

theorem runC_mem {l : List Ck} {t : Tro} (h : runC l = some t) : ∃ c ∈ l, c.2 = t := by
  induction l with
  | nil => cases h
  | cons x l ih =>
    obtain ⟨x, u⟩ := x
    cases x with
    | true => obtain ⟨c, hc, he⟩ := ih h; exact ⟨c, List.mem_cons_of_mem _ hc, he⟩
    | false => exact ⟨(false, u), by simp, by simpa [runC] using h⟩
theorem onceC_code {b p : Int} : ∀ (l : List Int) (mk : Mk), ∀ c ∈ onceC mk l b p, c.2.1 = 12
  | [], _, c, hc => by cases hc
  | n :: l, mk, c, hc => by
    simp only [onceC, List.mem_cons] at hc
    rcases hc with rfl | hc
    · rfl
    · exact onceC_code l _ c hc
theorem thgsC_code {params : Int} : ∀ (ts : List Thg) (mk : Mk), (∀ t ∈ ts, ∀ c ∈ t.pre, c.2.1 ≠ 0) → ∀ c ∈ thgsC params mk ts, c.2.1 ≠ 0
  | [], _, _, c, hc => by cases hc
  | t :: ts, mk, h, c, hc => by
    rw [thgsC_cons, List.mem_append, List.mem_append] at hc
    rcases hc with hc | hc | hc
    · exact h t (by simp) c hc
    · rw [allC, List.mem_append] at hc
      rcases hc with hc | hc
      · obtain ⟨n, hn, rfl⟩ := List.mem_map.1 hc
        simp
      · rw [onceC_code _ _ c hc]; simp
    · exact thgsC_code ts _ (fun t ht => h t (by simp [ht])) c hc
theorem funcC_code {f : JFunc} {idom : List Int} {t : Tro} (h : runC (funcC f idom) = some t) : t.1 ≠ 0 := by
  obtain ⟨c, hc, rfl⟩ := runC_mem h
  simp only [funcC, frontC, List.mem_append] at hc
  rcases hc with (hc | hc) | hc
  · simp only [headC, List.mem_cons, List.not_mem_nil, or_false] at hc
    rcases hc with rfl | rfl | rfl <;> simp
  · refine thgsC_code _ _ ?_ c hc
    intro t ht c hc
    obtain ⟨b, hb, ht⟩ := mem_blocksT_iff.1 ht
    rcases mem_blockT_iff.1 ht with ⟨i, hi, rfl⟩ | ⟨i, hi, rfl⟩ | rfl
    · simp [phiT] at hc
    · simp only [insT, List.mem_cons, List.not_mem_nil, or_false] at hc
      rcases hc with rfl | rfl <;> simp
    · simp only [termT, List.mem_cons] at hc
      rcases hc with rfl | hc
      · simp
      · obtain ⟨x, _, rfl⟩ := List.mem_map.1 hc
        simp
  · simp only [usesC, List.mem_append] at hc
    rcases hc with hc | hc
    · obtain ⟨x, _, rfl⟩ := List.mem_map.1 hc
      simp
    · obtain ⟨l, hl, hc⟩ := List.mem_flatten.1 hc
      obtain ⟨b, _, rfl⟩ := List.mem_map.1 hl
      simp only [blockU, List.mem_append] at hc
      rcases hc with hc | hc | hc
      · obtain ⟨l, hl, hc⟩ := List.mem_flatten.1 hc
        obtain ⟨i, _, rfl⟩ := List.mem_map.1 hl
        simp only [phiU, List.mem_cons] at hc
        rcases hc with rfl | hc
        · simp
        · obtain ⟨x, _, rfl⟩ := List.mem_map.1 hc
          simp [inU]
      · obtain ⟨l, hl, hc⟩ := List.mem_flatten.1 hc
        obtain ⟨i, _, rfl⟩ := List.mem_map.1 hl
        obtain ⟨x, _, rfl⟩ := List.mem_map.1 hc
        simp [argU]
      · obtain ⟨x, _, rfl⟩ := List.mem_map.1 hc
        simp [argU]

/-- what split needs of a function that may be -/
structure OkC (f : JFunc) : Prop where
  ne : 0 < f.blocks.length
  many : f.blocks.length ≤ 512
  things : f.blocks.length + thingsN f.blocks ≤ 4096
  to : ∀ x ∈ f.blocks, ∀ t ∈ x.term.to, 1 ≤ t ∧ t ≤ (f.blocks.length : Int) - 1
  tolen : ∀ x ∈ f.blocks, x.term.to.length ≤ 65 ∧ x.term.args.length ≤ 1 ∧ ∀ s ∈ x.ins, s.args.length ≤ 4
  phis : ∀ b (hb : b < f.blocks.length), ∀ p ∈ f.blocks[b].phis, p.ins.map (·.src) = (prd (ofF f.blocks) b).map Int.ofNat
  reach : AllR (ofF f.blocks)
theorem okC_of {f : JFunc} {idom : List Int} (h : runC (funcC f idom) = none) : OkC f := by
  have hall := runC_none.1 h
  have hsh : runC (shapeC f.params f.blocks) = none := runC_none.2 fun c hc => hall c (by simp [funcC, frontC, hc])
  have hus : runC (usesC f.params (madeAll f.blocks) (domF idom) f.blocks) = none := runC_none.2 fun c hc => hall c (by simp [funcC, hc])
  have h2 : 0 < f.blocks.length := by
    have := hall (decide (0 < f.blocks.length), (14, 0, 0)) (by simp [funcC, frontC, headC])
    simpa using this
  have h3 := hall (decide ((f.blocks.length : Int) ≤ 512) && decide (((f.blocks.length + thingsN f.blocks : Nat) : Int) ≤ 4096), (2, 0, 0)) (by simp [funcC, frontC, headC])
  simp only [Bool.and_eq_true, decide_eq_true_eq] at h3
  have hr : AllR (ofF f.blocks) := (reach_all (ofF_good _) (by simpa using h2)).1 (runC_none.2 fun c hc => runC_none.1 hus c (by simp [usesC, hc]))
  refine ⟨h2, by omega, by omega, fun x hx t ht => ?_, fun x hx => ?_, fun b hb p hp => ?_, hr⟩
  · obtain ⟨i, hi, rfl⟩ := List.getElem_of_mem hx
    exact (shape_term hsh hi).2 t ht
  · obtain ⟨i, hi, rfl⟩ := List.getElem_of_mem hx
    refine ⟨(termOk_to (shape_term hsh hi).1).1, (termOk_to (shape_term hsh hi).1).2, fun s hs => ?_⟩
    obtain ⟨j, hj, rfl⟩ := List.getElem_of_mem hs
    have e : f.blocks[i].ins.getD j default = f.blocks[i].ins[j] := by simp [List.getD, hj]
    have hm : (decide ((opersF f.blocks[i].ins[j].op).1 ≤ (f.blocks[i].ins[j].args.length : Int) ∧ (f.blocks[i].ins[j].args.length : Int) ≤ (opersF f.blocks[i].ins[j].op).2), ((10 : Int), (i : Int), (j : Int))) ∈ (insT i f.blocks[i] j).pre := by
      simp only [insT, e]; exact .tail _ (.head _)
    have := thgsC_pre _ _ hsh (insT i f.blocks[i] j) (mem_blocksT hi (mem_blockT_iff.2 (.inr (.inl ⟨j, hj, rfl⟩)))) _ hm
    simp only [decide_eq_true_eq] at this
    have h4 : (opersF f.blocks[i].ins[j].op).2 ≤ 4 := by
      unfold opersF; repeat' split
      all_goals simp
    omega
  · obtain ⟨j, hj, rfl⟩ := List.getElem_of_mem hp
    have hm : (phiFits b f.blocks[b].phis[j] (prd (ofF f.blocks) b), ((16 : Int), (b : Int), -1 - (j : Int))) ∈ usesC f.params (madeAll f.blocks) (domF idom) f.blocks := by
      refine List.mem_append_right _ (List.mem_flatten.2 ⟨_, List.mem_map.2 ⟨b, List.mem_range.2 hb, rfl⟩, ?_⟩)
      have e : f.blocks.getD b default = f.blocks[b] := by simp [List.getD, hb]
      rw [e, blockU]
      refine List.mem_append_left _ (List.mem_flatten.2 ⟨_, List.mem_map.2 ⟨j, List.mem_range.2 hj, rfl⟩, ?_⟩)
      have e2 : f.blocks[b].phis.getD j default = f.blocks[b].phis[j] := by simp [List.getD, hj]
      rw [phiU, e2]; exact .head _
    have := runC_none.1 hus _ hm
    simp only [phiFits, Bool.and_eq_true, decide_eq_true_eq] at this
    exact this.2

/-! ### a block's predecessors rise -/
theorem edgesF_lex {g : List (List Nat)} (hg : Good g) : (edgesF g).Pairwise fun x y => x.1 < y.1 ∨ x.1 = y.1 ∧ x.2 < y.2 := by
  unfold edgesF edgesTo
  rw [List.take_length, List.pairwise_flatMap]
  constructor
  · intro p hp
    obtain ⟨h1, h2, h3⟩ := List.mem_zipIdx hp
    rw [List.pairwise_map]
    have := (hg p.1 (by rw [h3]; exact List.getElem_mem _)).1
    exact this.imp fun {a b} hab => .inr ⟨rfl, hab⟩
  · rw [List.pairwise_iff_getElem]
    intro i j hi hj hij x hx y hy
    rw [List.length_zipIdx] at hi hj
    simp only [List.getElem_zipIdx, List.mem_map] at hx hy
    obtain ⟨x', _, rfl⟩ := hx
    obtain ⟨y', _, rfl⟩ := hy
    exact .inl (by simp; omega)
theorem prd_sorted {g : List (List Nat)} (hg : Good g) (x : Nat) : (prd g x).Pairwise (· < ·) := by
  unfold prd predsF predsOf
  by_cases hx : x < g.length
  · rw [List.getD_eq_getElem?_getD, List.getElem?_map, List.getElem?_range hx]
    simp only [Option.map_some, Option.getD_some]
    rw [List.pairwise_map]
    refine List.Pairwise.imp_of_mem ?_ ((edgesF_lex hg).filter _)
    intro a b ha hb h
    have h1 := (List.mem_filter.1 ha).2
    have h2 := (List.mem_filter.1 hb).2
    simp only [beq_iff_eq] at h1 h2
    omega
  · rw [List.getD_eq_getElem?_getD, List.getElem?_eq_none (by simpa using hx)]
    simp
theorem fixS_nat {n : Nat} {c : List (Nat × Nat)} {a s : Nat} : fixS n c a (s : Int) = match lookC n c s a with | some k => (k : Int) | none => (s : Int) := rfl
theorem lookC_mem {n : Nat} {c : List (Nat × Nat)} {a t k : Nat} (h : lookC n c a t = some k) : ∃ i, ∃ hi : i < c.length, c[i] = (a, t) ∧ k = n + i := by
  unfold lookC at h
  obtain ⟨i, hi, rfl⟩ := Option.map_eq_some_iff.1 h
  obtain ⟨h1, h2, _⟩ := List.findIdx?_eq_some_iff_getElem.1 hi
  exact ⟨i, h1, by simpa using h2, rfl⟩
theorem fixS_lt {n : Nat} {c : List (Nat × Nat)} {a s : Nat} (hs : s < n) : 0 ≤ fixS n c a (s : Int) ∧ fixS n c a (s : Int) < (n + c.length : Nat) := by
  rw [fixS_nat]
  cases h : lookC n c s a with
  | none => simp only []; omega
  | some k =>
    obtain ⟨i, hi, _, rfl⟩ := lookC_mem h
    simp only []; omega
theorem fixS_inj {n : Nat} {c : List (Nat × Nat)} {a s t : Nat} (hs : s < n) (ht : t < n) (h : fixS n c a (s : Int) = fixS n c a (t : Int)) : s = t := by
  rw [fixS_nat, fixS_nat] at h
  cases h1 : lookC n c s a with
  | none =>
    cases h2 : lookC n c t a with
    | none => rw [h1, h2] at h; simp only [] at h; omega
    | some k =>
      obtain ⟨i, hi, _, rfl⟩ := lookC_mem h2
      rw [h1, h2] at h; simp only [] at h; omega
  | some k =>
    obtain ⟨i, hi, e1, rfl⟩ := lookC_mem h1
    cases h2 : lookC n c t a with
    | none => rw [h1, h2] at h; simp only [] at h; omega
    | some k =>
      obtain ⟨j, hj, e2, rfl⟩ := lookC_mem h2
      rw [h1, h2] at h
      simp only [] at h
      have : i = j := by omega
      subst this
      rw [e1] at e2
      exact (Prod.mk.inj e2).1
/-- a phi's numbers of blocks, some of them others now: each once, and small -/
theorem fix_srcs {bs : List JBlock} {b : Nat} (hb : b < bs.length) {p : JPhi} (hp : p.ins.map (·.src) = (prd (ofF bs) b).map Int.ofNat) (n : Nat) (hn : n = bs.length) (c : List (Nat × Nat)) (a : Nat) :
    ((p.ins.map (fixIn n c a)).map (·.src)).Nodup ∧ ∀ x ∈ p.ins.map (fixIn n c a), 0 ≤ x.src ∧ x.src < (n + c.length : Nat) := by
  subst hn
  have hg := ofF_good bs
  have hlt : ∀ s ∈ prd (ofF bs) b, s < bs.length := fun s hs => by
    have := (Ed.lt hg ((mem_prd (by simpa using hb)).1 hs)).1
    simpa using this
  have e : (p.ins.map (fixIn bs.length c a)).map (·.src) = (prd (ofF bs) b).map fun s : Nat => fixS bs.length c a (s : Int) := by
    have := congrArg (List.map (fixS bs.length c a)) hp
    rw [List.map_map, List.map_map] at this
    rw [List.map_map]
    exact this
  constructor
  · rw [e]
    unfold List.Nodup
    rw [List.pairwise_map]
    refine List.Pairwise.imp_of_mem ?_ (prd_sorted hg b)
    intro x y hx hy hxy he
    have := fixS_inj (hlt x hx) (hlt y hy) he
    omega
  · intro x hx
    have : x.src ∈ (p.ins.map (fixIn bs.length c a)).map (·.src) := List.mem_map.2 ⟨x, hx, rfl⟩
    rw [e] at this
    obtain ⟨s, hs, he⟩ := List.mem_map.1 this
    rw [← he]
    exact fixS_lt (hlt s hs)
theorem rise_len {l : List Nat} {n : Nat} (h : l.Pairwise (· < ·)) (hn : ∀ x ∈ l, x < n) : l.length ≤ n := by
  have hnd : l.Nodup := h.imp fun h => by omega
  have : l.Perm ((List.range n).filter fun x => l.contains x) := (List.perm_ext_iff_of_nodup hnd (List.nodup_range.filter _)).2 fun x => by
    rw [List.mem_filter]
    constructor
    · intro h; exact ⟨by simpa using hn x h, by simpa using h⟩
    · intro h; simpa using h.2
  rw [this.length_eq]
  exact Nat.le_trans (List.length_filter_le _ _) (by simp)
theorem sum_le {α : Type} (l : List α) (F : α → Nat) (b : Nat) (h : ∀ x ∈ l, F x ≤ b) : (l.map F).sum ≤ l.length * b := by
  induction l with
  | nil => simp
  | cons x l ih =>
    have h1 := h x (by simp)
    have h2 := ih fun y hy => h y (by simp [hy])
    simp only [List.map_cons, List.sum_cons, List.length_cons, Nat.add_mul, Nat.one_mul]
    omega
theorem crit_le {g : List (List Nat)} (hg : Good g) : (critF g).length ≤ g.length * g.length := by
  refine Nat.le_trans (List.length_filter_le _ _) ?_
  unfold edgesF edgesTo
  rw [List.take_length, List.length_flatMap]
  have := sum_le g.zipIdx (fun p => (p.1.map fun b => (p.2, b)).length) g.length fun p hp => by
    obtain ⟨h1, h2, h3⟩ := List.mem_zipIdx hp
    have hm : p.1 ∈ g := by rw [h3]; exact List.getElem_mem _
    rw [List.length_map]
    exact rise_len (hg p.1 hm).1 (hg p.1 hm).2
  simpa using this
theorem okC_small {f : JFunc} (h : OkC f) : ∀ x ∈ f.blocks, smallB x := by
  intro x hx
  have h1 := thingsN_mem hx
  have h2 := h.things
  have h3 := h.tolen x hx
  refine ⟨by omega, by omega, fun p hp => ?_, fun s hs => by have := h3.2.2 s hs; omega, by omega, by omega⟩
  obtain ⟨b, hb, rfl⟩ := List.getElem_of_mem hx
  have h4 := congrArg List.length (h.phis b hb p hp)
  simp only [List.length_map] at h4
  have hg := ofF_good f.blocks
  have h5 : (prd (ofF f.blocks) b).length ≤ f.blocks.length := by
    have hnd : (prd (ofF f.blocks) b).Nodup := (prd_sorted hg b).imp fun h => by omega
    have hsub : ∀ s ∈ prd (ofF f.blocks) b, s ∈ List.range f.blocks.length := fun s hs => by
      have := (Ed.lt hg ((mem_prd (by simpa using hb)).1 hs)).1
      simpa using this
    have : (prd (ofF f.blocks) b).Perm ((List.range f.blocks.length).filter fun x => (prd (ofF f.blocks) b).contains x) := (List.perm_ext_iff_of_nodup hnd (List.nodup_range.filter _)).2 fun x => by
      rw [List.mem_filter]
      constructor
      · intro h; exact ⟨hsub x h, by simpa using h⟩
      · intro h; simpa using h.2
    rw [this.length_eq]
    exact Nat.le_trans (List.length_filter_le _ _) (by simp)
  have h6 := h.many
  omega
end Go.Proofs.Ytkmgbejhbkbaoaa

/- Plain: functions that may be have nothing wrong; the chapter's example; a row of switches. -/
namespace Go.Proofs.Ytkmgbejhbkbaoaa
set_option linter.unusedSimpArgs false
set_option linter.unusedVariables false

theorem right_front {f : JFunc} (h : RightF f) : runC (frontC f) = none := by
  rw [frontC, runC_append]
  have h1 : runC (headC f) = none := by
    refine runC_none.2 fun c hc => ?_
    have h2 := h.params
    have h3 := h.ne
    have h4 := h.many
    have h5 := h.things
    simp only [headC, List.mem_cons, List.not_mem_nil, or_false] at hc
    rcases hc with rfl | rfl | rfl
    · simpa using h2
    · simpa using h3
    · simp only [Bool.and_eq_true, decide_eq_true_eq]; omega
  rw [h1]
  exact right_shape h
theorem right_func {f : JFunc} (h : RightF f) {idom : List Int} (hid : runC (frontC f) = none → AllR (ofF f.blocks) → IdomOk (ofF f.blocks) idom) : runC (funcC f idom) = none := by
  rw [funcC, runC_append, right_front h]
  exact right_uses h (hid (right_front h) h.reach)

/-! ### the example -/
def exF : JFunc := ⟨1, [⟨[], [], ⟨2, [0], [1, 2], 0⟩⟩, ⟨[], [], ⟨1, [], [2], 0⟩⟩, ⟨[⟨1, [⟨0, 0⟩, ⟨1, 0⟩]⟩], [], ⟨4, [1], [], 0⟩⟩]⟩
theorem ex_of : ofF exF.blocks = [[1, 2], [2], []] := by decide
theorem ex_right : RightF exF := {
  params := by decide
  ne := by decide
  many := by decide
  things := by decide
  ins := by intro x hx s hs; simp [exF] at hx; rcases hx with rfl | rfl | rfl <;> simp at hs
  term := by intro x hx; simp [exF] at hx; rcases hx with rfl | rfl | rfl <;> decide
  to := by intro x hx t ht; simp [exF] at hx; rcases hx with rfl | rfl | rfl <;> simp at ht <;> (try rcases ht with rfl | rfl) <;> (try subst ht) <;> decide
  vals := by decide
  once := by decide
  reach := by
    rw [ex_of]
    refine ⟨by decide, fun x hx => ?_⟩
    have h0 : Rch [[1, 2], [2], []] 0 0 := .refl
    have h1 : Rch [[1, 2], [2], []] 0 1 := h0.step (by simp [Ed])
    have h2 : Rch [[1, 2], [2], []] 0 2 := h0.step (by simp [Ed])
    simp at hx
    rcases x with _ | _ | _ | x
    · exact h0
    · exact h1
    · exact h2
    · omega
  phis := by
    intro b hb p hp
    rw [ex_of]
    have hb' : b < 3 := hb
    rcases b with _ | _ | _ | b
    · simp [exF] at hp
    · simp [exF] at hp
    · simp [exF] at hp
      subst hp
      decide
    · omega
  useP := by
    intro b hb p hp n hn a ha _
    have hb' : b < 3 := hb
    refine .inl ?_
    rcases b with _ | _ | _ | b
    · simp [exF] at hp
    · simp [exF] at hp
    · simp [exF] at hp
      subst hp
      simp at hn
      rcases hn with rfl | rfl <;> decide
    · omega
  useI := by
    intro b hb i hi
    have hb' : b < 3 := hb
    rcases b with _ | _ | _ | b
    · simp [exF] at hi
    · simp [exF] at hi
    · simp [exF] at hi
    · omega
  useT := by
    intro b hb v hv
    have hb' : b < 3 := hb
    rcases b with _ | _ | _ | b
    · simp [exF] at hv
      subst hv
      exact .inl (by decide)
    · simp [exF] at hv
    · simp [exF] at hv
      subst hv
      exact .inr ⟨2, -1, ⟨by decide, .inl ⟨0, by decide, by decide, by decide⟩⟩, .inl ⟨rfl, .inr (by decide)⟩⟩
    · omega }
theorem sortIn_eq {xs zs : List JIn} (hnd : (xs.map (·.src)).Nodup) (hp : zs.Perm xs) (hs : zs.Pairwise fun x y => x.src ≤ y.src) : sortIn xs = zs := by
  have h1 : (sortIn xs).Perm xs := List.mergeSort_perm _ _
  have h2 : (sortIn xs).Pairwise fun x y => x.src ≤ y.src := by
    have := List.pairwise_mergeSort (le := fun x y : JIn => decide (x.src ≤ y.src)) (fun a b c => by simp; omega) (fun a b => by simp; omega) xs
    exact this.imp fun h => by simpa using h
  refine List.Perm.eq_of_pairwise (le := fun x y : JIn => x.src ≤ y.src) (fun a b ha hb hab hba => ?_) h2 hs (h1.trans hp.symm)
  have ha' := h1.mem_iff.1 ha
  have hb' := hp.mem_iff.1 hb
  obtain ⟨i, hi, rfl⟩ := List.getElem_of_mem ha'
  obtain ⟨j, hj, rfl⟩ := List.getElem_of_mem hb'
  have e : xs[i].src = xs[j].src := by omega
  have a1 := List.Nodup.idxOf_getElem hnd i (by simpa using hi)
  have a2 := List.Nodup.idxOf_getElem hnd j (by simpa using hj)
  simp only [List.getElem_map, e] at a1 a2
  have : i = j := a1.symm.trans a2
  subst this; rfl
theorem ex_crit : critF (ofF exF.blocks) = [(0, 2)] := by rw [ex_of]; decide
theorem ex_split : splitF exF = ⟨1, [⟨[], [], ⟨2, [0], [1, 3], 0⟩⟩, ⟨[], [], ⟨1, [], [2], 0⟩⟩, ⟨[⟨1, [⟨1, 0⟩, ⟨3, 0⟩]⟩], [], ⟨4, [1], [], 0⟩⟩, ⟨[], [], ⟨1, [], [2], 0⟩⟩]⟩ := by
  unfold splitF splitBs
  rw [ex_crit]
  have h : sortIn [⟨3, 0⟩, ⟨1, 0⟩] = [⟨1, 0⟩, ⟨3, 0⟩] := sortIn_eq (by decide) (by decide) (by decide)
  have e1 : fixB 3 [(0, 2)] 2 ⟨[⟨1, [⟨0, 0⟩, ⟨1, 0⟩]⟩], [], ⟨4, [1], [], 0⟩⟩ = ⟨[⟨1, [⟨1, 0⟩, ⟨3, 0⟩]⟩], [], ⟨4, [1], [], 0⟩⟩ := by
    unfold fixB fixP
    simp only [List.map_cons, List.map_nil]
    rw [show [fixIn 3 [(0, 2)] 2 ⟨0, 0⟩, fixIn 3 [(0, 2)] 2 ⟨1, 0⟩] = [⟨3, 0⟩, ⟨1, 0⟩] from by decide, h]
  have e0 : fixB 3 [(0, 2)] 0 ⟨[], [], ⟨2, [0], [1, 2], 0⟩⟩ = ⟨[], [], ⟨2, [0], [1, 3], 0⟩⟩ := by decide
  have e2 : fixB 3 [(0, 2)] 1 ⟨[], [], ⟨1, [], [2], 0⟩⟩ = ⟨[], [], ⟨1, [], [2], 0⟩⟩ := by decide
  simp only [exF, List.length_cons, List.length_nil, List.mapIdx_cons, List.mapIdx_nil, Nat.zero_add, Nat.reduceAdd, e0, e1, e2, List.map_cons, List.map_nil, jumpB]
  rfl

/-! ### a row of switches -/
def swB (n j : Nat) : JBlock := ⟨[], [], ⟨2, [0], [((j + 1 : Nat) : Int), (n : Int)], 0⟩⟩
def jmpB (n : Nat) : JBlock := ⟨[], [], ⟨1, [], [(n : Int)], 0⟩⟩
def retB : JBlock := ⟨[], [], ⟨4, [], [], 0⟩⟩
def manyB (n : Nat) : List JBlock := ((List.range n).map (swB n) ++ [retB]).set (n - 1) (jmpB n)
def manyRow (n a : Nat) : List Nat := if a + 1 < n then [a + 1, n] else if a + 1 = n then [n] else []
@[simp] theorem manyB_len (n : Nat) : (manyB n).length = n + 1 := by simp [manyB]
theorem manyB_get {n a : Nat} (ha : a < n + 1) (h1 : 0 < n) : (manyB n)[a]'(by simpa using ha) = if a + 1 < n then swB n a else if a + 1 = n then jmpB n else retB := by
  simp only [manyB, List.getElem_set]
  by_cases e1 : n - 1 = a
  · rw [if_pos e1, if_neg (by omega), if_pos (by omega)]
  · rw [if_neg e1]
    by_cases e2 : a < n
    · rw [List.getElem_append_left (by simpa using e2), if_pos (by omega)]
      simp
    · rw [List.getElem_append_right (by simpa using e2), if_neg (by omega), if_neg (by omega)]
      simp
theorem kept_two {a n m : Nat} (h1 : a < n) (h2 : n < m) : keptF [(a : Int), (n : Int)] m = [a, n] := by
  refine List.Perm.eq_of_pairwise (le := (· < ·)) (fun a b _ _ h1 h2 => by omega) (keptF_sorted _ _) (by simp; omega) ?_
  refine (List.perm_ext_iff_of_nodup ((keptF_sorted _ _).imp fun h => by omega) (by simp; omega)).2 fun x => ?_
  rw [mem_keptF]; simp; omega
theorem kept_one {n m : Nat} (h2 : n < m) : keptF [(n : Int)] m = [n] := by
  refine List.Perm.eq_of_pairwise (le := (· < ·)) (fun a b _ _ h1 h2 => by omega) (keptF_sorted _ _) (by simp) ?_
  refine (List.perm_ext_iff_of_nodup ((keptF_sorted _ _).imp fun h => by omega) (by simp)).2 fun x => ?_
  rw [mem_keptF]; simp; omega
theorem many_of {n : Nat} (h1 : 0 < n) : ofF (manyB n) = (List.range (n + 1)).map (manyRow n) := by
  refine List.ext_getElem (by simp) fun a h2 h3 => ?_
  have ha : a < n + 1 := by simpa using h3
  simp only [ofF, List.getElem_map, List.getElem_range, manyB_len]
  rw [manyB_get ha h1]
  unfold manyRow
  by_cases e1 : a + 1 < n
  · rw [if_pos e1, if_pos e1]
    exact kept_two e1 (by omega)
  · rw [if_neg e1, if_neg e1]
    by_cases e2 : a + 1 = n
    · rw [if_pos e2, if_pos e2]
      exact kept_one (by omega)
    · rw [if_neg e2, if_neg e2]
      simp [retB, keptF]
theorem many_ed {n a b : Nat} (h1 : 0 < n) : Ed (ofF (manyB n)) a b ↔ a < n + 1 ∧ b ∈ manyRow n a := by
  rw [many_of h1, Ed, List.getD_eq_getElem?_getD, List.getElem?_map]
  by_cases ha : a < n + 1
  · simp [ha]
  · rw [List.getElem?_eq_none (by simpa using ha)]; simp [ha]
theorem many_row {n a b : Nat} : b ∈ manyRow n a ↔ (a + 1 < n ∧ (b = a + 1 ∨ b = n)) ∨ (a + 1 = n ∧ b = n) := by
  unfold manyRow
  split
  · simp; omega
  · split
    · simp; omega
    · simp; omega
theorem many_preds {n b : Nat} (h1 : 1 < n) (hb : b < n + 1) : 1 < (prd (ofF (manyB n)) b).length ↔ b = n := by
  have hs := prd_sorted (ofF_good (manyB n)) b
  have hm : ∀ x, x ∈ prd (ofF (manyB n)) b ↔ x < n + 1 ∧ b ∈ manyRow n x := fun x => by rw [mem_prd (by simpa using hb), many_ed (by omega)]
  constructor
  · intro h
    have h2 := (hm _).1 (List.getElem_mem (show 0 < (prd (ofF (manyB n)) b).length by omega))
    have h3 := (hm _).1 (List.getElem_mem h)
    have h4 := List.pairwise_iff_getElem.1 hs 0 1 (by omega) h (by omega)
    rw [many_row] at h2 h3
    omega
  · rintro rfl
    have h2 : 0 ∈ prd (ofF (manyB b)) b := (hm 0).2 ⟨by omega, by rw [many_row]; omega⟩
    have h3 : 1 ∈ prd (ofF (manyB b)) b := (hm 1).2 ⟨by omega, by rw [many_row]; omega⟩
    obtain ⟨i, hi, e1⟩ := List.getElem_of_mem h2
    obtain ⟨j, hj, e2⟩ := List.getElem_of_mem h3
    rcases Nat.lt_or_ge 1 (prd (ofF (manyB b)) b).length with h | h
    · exact h
    · have : i = j := by omega
      subst this
      omega
theorem many_crit {n : Nat} (h1 : 1 < n) : (critF (ofF (manyB n))).length = n - 1 := by
  have hg := ofF_good (manyB n)
  have hx := (edgesF_lex hg).filter (isCrit (ofF (manyB n)) (predsF (ofF (manyB n))))
  have hm : ∀ e, e ∈ critF (ofF (manyB n)) ↔ e.1 < n - 1 ∧ e.2 = n := by
    rintro ⟨a, b⟩
    unfold critF
    rw [List.mem_filter, mem_edgesF, many_ed (by omega)]
    simp only [isCrit, Bool.and_eq_true, decide_eq_true_eq]
    constructor
    · rintro ⟨⟨h2, h3⟩, h4, h5⟩
      have hb : b < n + 1 := by rw [many_row] at h3; omega
      have h6 := (many_preds h1 hb).1 h5
      refine ⟨?_, h6⟩
      have h7 : (ofF (manyB n)).getD a [] = manyRow n a := by
        rw [many_of (by omega), List.getD_eq_getElem?_getD, List.getElem?_map, List.getElem?_range h2]; rfl
      rw [h7] at h4
      unfold manyRow at h4
      split at h4
      · omega
      · split at h4 <;> simp at h4
    · rintro ⟨h2, rfl⟩
      refine ⟨⟨by omega, by rw [many_row]; omega⟩, ?_, (many_preds h1 (by omega)).2 rfl⟩
      rw [many_of (by omega), List.getD_eq_getElem?_getD, List.getElem?_map, List.getElem?_range (by omega)]
      simp [manyRow, show a + 1 < b by omega]
  have hp : (critF (ofF (manyB n))).Perm ((List.range (n - 1)).map fun a => (a, n)) := by
    refine (List.perm_ext_iff_of_nodup (crit_nodup hg) ?_).2 fun e => ?_
    · unfold List.Nodup
      rw [List.pairwise_map]
      exact List.pairwise_lt_range.imp fun h he => by injection he; omega
    · rw [hm]
      obtain ⟨a, b⟩ := e
      simp only [List.mem_map, List.mem_range, Prod.mk.injEq]
      constructor
      · rintro ⟨h2, rfl⟩; exact ⟨a, h2, rfl, rfl⟩
      · rintro ⟨c, h2, rfl, rfl⟩; exact ⟨h2, rfl⟩
  rw [hp.length_eq]; simp
theorem many_mem {n : Nat} (h1 : 0 < n) {x : JBlock} (hx : x ∈ manyB n) : ∃ a, a < n + 1 ∧ x = if a + 1 < n then swB n a else if a + 1 = n then jmpB n else retB := by
  obtain ⟨a, ha, rfl⟩ := List.getElem_of_mem hx
  have ha' : a < n + 1 := by simpa using ha
  exact ⟨a, ha', manyB_get ha' h1⟩
theorem many_cases {n : Nat} (h1 : 0 < n) {x : JBlock} (hx : x ∈ manyB n) : (∃ a, a + 1 < n ∧ x = swB n a) ∨ x = jmpB n ∨ x = retB := by
  obtain ⟨a, ha, rfl⟩ := many_mem h1 hx
  split
  · rename_i h; exact .inl ⟨a, h, rfl⟩
  · split
    · exact .inr (.inl rfl)
    · exact .inr (.inr rfl)
theorem many_things {n : Nat} (h1 : 0 < n) : thingsN (manyB n) = 0 := by
  unfold thingsN
  have : (manyB n).map (fun b => b.phis.length + b.ins.length) = List.replicate (n + 1) 0 := by
    refine List.eq_replicate_iff.2 ⟨by simp, fun y hy => ?_⟩
    obtain ⟨x, hx, rfl⟩ := List.mem_map.1 hy
    rcases many_cases h1 hx with ⟨a, _, rfl⟩ | rfl | rfl <;> rfl
  rw [this]; simp
theorem many_right {n : Nat} (h1 : 1 < n) (h2 : n < 512) : RightF ⟨1, manyB n⟩ := {
  params := ⟨by simp, by simp⟩
  ne := by simp
  many := by simp; omega
  things := by rw [many_things (by omega)]; simp; omega
  ins := by intro x hx s hs; rcases many_cases (by omega) hx with ⟨a, _, rfl⟩ | rfl | rfl <;> simp [swB, jmpB, retB] at hs
  term := by intro x hx; rcases many_cases (by omega) hx with ⟨a, _, rfl⟩ | rfl | rfl <;> rfl
  to := by
    intro x hx t ht
    simp only [manyB_len]
    rcases many_cases (by omega) hx with ⟨a, ha, rfl⟩ | rfl | rfl
    · simp [swB] at ht; omega
    · simp [jmpB] at ht; omega
    · simp [retB] at ht
  vals := by
    intro v hv
    obtain ⟨x, hx, hv⟩ := List.mem_flatMap.1 hv
    rcases many_cases (by omega) hx with ⟨a, _, rfl⟩ | rfl | rfl <;> simp [valsB, swB, jmpB, retB] at hv
  once := by
    have : valsF (manyB n) = [] := by
      unfold valsF
      rw [List.flatMap_eq_nil_iff]
      intro x hx
      rcases many_cases (by omega) hx with ⟨a, _, rfl⟩ | rfl | rfl <;> rfl
    rw [this]; simp
  reach := by
    refine ⟨by simp, fun x hx => ?_⟩
    simp only [ofF_len, manyB_len] at hx
    have key : ∀ x, x < n → Rch (ofF (manyB n)) 0 x := by
      intro x
      induction x with
      | zero => intro _; exact .refl
      | succ x ih =>
        intro hx
        exact (ih (by omega)).step ((many_ed (by omega)).2 ⟨by omega, by rw [many_row]; omega⟩)
    rcases Nat.lt_or_ge x n with h | h
    · exact key x h
    · have : x = n := by omega
      subst this
      exact (key 0 (by omega)).step ((many_ed (by omega)).2 ⟨by omega, by rw [many_row]; omega⟩)
  phis := by intro b hb p hp; rcases many_cases (by omega) (List.getElem_mem hb) with ⟨a, _, h⟩ | h | h <;> (simp only at hp; rw [h] at hp; simp [swB, jmpB, retB] at hp)
  useP := by intro b hb p hp; rcases many_cases (by omega) (List.getElem_mem hb) with ⟨a, _, h⟩ | h | h <;> (simp only at hp; rw [h] at hp; simp [swB, jmpB, retB] at hp)
  useI := by
    intro b hb i hi
    exfalso
    rcases many_cases (by omega) (List.getElem_mem hb) with ⟨a, _, h⟩ | h | h <;> (simp only at hi; rw [h] at hi; simp [swB, jmpB, retB] at hi)
  useT := by
    intro b hb v hv
    rcases many_cases (by omega) (List.getElem_mem hb) with ⟨a, _, h⟩ | h | h
    · simp only at hv; rw [h] at hv; simp [swB] at hv; subst hv; exact .inl ⟨by simp, by simp⟩
    · simp only at hv; rw [h] at hv; simp [jmpB] at hv
    · simp only at hv; rw [h] at hv; simp [retB] at hv }
end Go.Proofs.Ytkmgbejhbkbaoaa

/- slices.SortFunc at rows of two numbers, stated with the numbers of this translation. -/
namespace Go.Proofs
set_option linter.unusedSimpArgs false
set_option linter.unusedVariables false
open Go.Shelf
def Try.sortIn_ren : Go.Shelf.Ren := ⟨fun | 6 => 33 | 15 => 63 | 14 => 62 | 28 => 84 | 29 => 85 | 20 => 76 | 21 => 77 | 22 => 78 | 23 => 79 | 24 => 80 | 25 => 81 | 26 => 82 | 27 => 83 | 46 => 90 | 47 => 91 | 48 => 92 | 49 => 93 | 50 => 94 | 57 => 104 | n => n, fun | 22 => 44 | 24 => 49 | 25 => 81 | 3 => 3 | 39 => 115 | 0 => 0 | 53 => 141 | 55 => 143 | 4 => 4 | 46 => 135 | 45 => 134 | 50 => 79 | 5 => 5 | 9 => 9 | 66 => 147 | 70 => 151 | 76 => 156 | 77 => 120 | n => n, fun | n => n⟩
theorem Try.sortIn : Go.Proofs.SlLaysF0.n6 Try.prog Try.sortIn_ren := {
  mixed := by kernel_rfl
  f6 := ⟨Try.f33.name, by decide, Try.func33.trans (congrArg some (by kernel_rfl))⟩
  f14 := ⟨Try.f62.name, by decide, Try.func62.trans (congrArg some (by kernel_rfl))⟩
  f15 := Try.func63.trans (congrArg some (by kernel_rfl))
  f20 := ⟨Try.f76.name, by decide, Try.func76.trans (congrArg some (by kernel_rfl))⟩
  f21 := ⟨Try.f77.name, by decide, Try.func77.trans (congrArg some (by kernel_rfl))⟩
  f22 := ⟨Try.f78.name, by decide, Try.func78.trans (congrArg some (by kernel_rfl))⟩
  f23 := ⟨Try.f79.name, by decide, Try.func79.trans (congrArg some (by kernel_rfl))⟩
  f24 := ⟨Try.f80.name, by decide, Try.func80.trans (congrArg some (by kernel_rfl))⟩
  f25 := ⟨Try.f81.name, by decide, Try.func81.trans (congrArg some (by kernel_rfl))⟩
  f26 := ⟨Try.f82.name, by decide, Try.func82.trans (congrArg some (by kernel_rfl))⟩
  f27 := ⟨Try.f83.name, by decide, Try.func83.trans (congrArg some (by kernel_rfl))⟩
  f28 := Try.func84.trans (congrArg some (by kernel_rfl))
  f29 := Try.func85.trans (congrArg some (by kernel_rfl))
  f46 := ⟨Try.f90.name, by decide, Try.func90.trans (congrArg some (by kernel_rfl))⟩
  f47 := Try.func91.trans (congrArg some (by kernel_rfl))
  f48 := Try.func92.trans (congrArg some (by kernel_rfl))
  f49 := ⟨Try.f93.name, by decide, Try.func93.trans (congrArg some (by kernel_rfl))⟩
  f50 := ⟨Try.f94.name, by decide, Try.func94.trans (congrArg some (by kernel_rfl))⟩
  f57 := ⟨Try.f104.name, by decide, Try.func104.trans (congrArg some (by kernel_rfl))⟩
  t0 := Try.underlying0
  a0 := Try.isAgg0
  z0 := Try.sizeOf0
  v0 := Try.zeroValue0
  t3 := Try.underlying3
  a3 := Try.isAgg3
  z3 := Try.sizeOf3
  v3 := Try.zeroValue3
  t4 := Try.underlying4
  a4 := Try.isAgg4
  z4 := Try.sizeOf4
  v4 := Try.zeroValue4
  t5 := Try.underlying5
  a5 := Try.isAgg5
  z5 := Try.sizeOf5
  v5 := Try.zeroValue5
  t9 := Try.underlying9
  a9 := Try.isAgg9
  z9 := Try.sizeOf9
  v9 := Try.zeroValue9
  t22 := Try.underlying44
  a22 := Try.isAgg44
  z22 := Try.sizeOf44
  v22 := Try.zeroValue44
  t25 := Try.underlying81
  a25 := Try.isAgg81
  z25 := Try.sizeOf81
  v25 := Try.zeroValue81
  t39 := Try.underlying115
  a39 := Try.isAgg115
  z39 := Try.sizeOf115
  v39 := Try.zeroValue115
  t45 := Try.underlying134
  a45 := Try.isAgg134
  z45 := Try.sizeOf134
  v45 := Try.zeroValue134
  t46 := Try.underlying135
  a46 := Try.isAgg135
  z46 := Try.sizeOf135
  v46 := Try.zeroValue135
  t50 := Try.underlying79
  a50 := Try.isAgg79
  z50 := Try.sizeOf79
  v50 := Try.zeroValue79
  t53 := Try.underlying141
  a53 := Try.isAgg141
  z53 := Try.sizeOf141
  v53 := Try.zeroValue141
  t55 := Try.underlying143
  a55 := Try.isAgg143
  z55 := Try.sizeOf143
  v55 := Try.zeroValue143
  t66 := Try.underlying147
  a66 := Try.isAgg147
  z66 := Try.sizeOf147
  v66 := Try.zeroValue147
  t70 := Try.underlying151
  a70 := Try.isAgg151
  z70 := Try.sizeOf151
  v70 := Try.zeroValue151
  t76 := Try.underlying156
  a76 := Try.isAgg156
  z76 := Try.sizeOf156
  v76 := Try.zeroValue156
  t77 := Try.underlying120
  a77 := Try.isAgg120
  z77 := Try.sizeOf120
  v77 := Try.zeroValue120 }
end Go.Proofs

/- The program's split: a phi's numbers sorted. -/
namespace Go.Proofs.Ytkmgbejhbkbaoaa
set_option linter.unusedSimpArgs false
set_option linter.unusedVariables false
open Go.RowKit Go.Sort Go.Shelf

abbrev InS := { x : JIn // 0 ≤ x.src ∧ x.src ≤ 1073741824 }
instance : Inhabited InS := ⟨⟨⟨0, 0⟩, by decide⟩⟩
def encIn (x : InS) : List Value := [.int .i64 x.1.src, .int .i64 x.1.val]
def cmpIn (x y : InS) : Int := x.1.src - y.1.src
theorem ltIn (x y : InS) : ltOf cmpIn x y = decide (x.1.src < y.1.src) := by
  unfold ltOf cmpIn
  rw [decide_eq_decide]; omega
theorem swoIn : SWO (ltOf cmpIn) := {
  irrefl x := by rw [ltIn]; simp
  trans x y z h1 h2 := by rw [ltIn] at *; simp at *; omega
  ntrans x y z h1 h2 := by rw [ltIn] at *; simp at *; omega }
set_option maxRecDepth 20000 in
theorem cmp_calls (x y : InS) (W : World) : Calls Try.prog 34 #[.agg #[.int .i64 x.1.src, .int .i64 x.1.val], .agg #[.int .i64 y.1.src, .int .i64 y.1.val]] W fun e w' => e = .returned (.int .i64 (cmpIn x y)) ∧ ∃ q os', w' = grow (W.drewN q) os' := by
  obtain ⟨⟨xs, xv⟩, hx⟩ := x
  obtain ⟨⟨ys, yv⟩, hy⟩ := y
  obtain ⟨hx1, hx2⟩ := hx
  obtain ⟨hy1, hy2⟩ := hy
  have hx1' : 0 ≤ xs := hx1
  have hx2' : xs ≤ 1073741824 := hx2
  have hy1' : 0 ≤ ys := hy1
  have hy2' : ys ≤ 1073741824 := hy2
  simp only at *
  have hc : cmpIn ⟨⟨xs, xv⟩, hx1, hx2⟩ ⟨⟨ys, yv⟩, hy1, hy2⟩ = xs - ys := rfl
  rw [hc]
  clear hc
  have hwr : wrap64 (xs - ys) = xs - ys := by unfold wrap64; omega
  go_enter Try.func34, Try.ntmps34
  go_wp2
  go_ret
  exact ⟨rfl, 0, _, by rw [alloc_eq_grow, alloc_eq_grow, grow_grow]; rfl⟩
theorem in_split : ∀ (xs : List JIn), (∀ x ∈ xs, 0 ≤ x.src ∧ x.src ≤ 1073741824) → ∃ ys : List InS, ys.map (·.1) = xs
  | [], _ => ⟨[], rfl⟩
  | x :: xs, h => by
    obtain ⟨ys, hy⟩ := in_split xs fun y hy => h y (by simp [hy])
    exact ⟨⟨x, h x (by simp)⟩ :: ys, by simp [hy]⟩
theorem aggIn : ∀ w, (isAgg (Try.sortIn_ren.t 24)).run Try.prog w = .ok true w := fun _ => by kernel_rfl
theorem sizeIn : ∀ w, (Go.sizeOf (Try.sortIn_ren.t 24)).run Try.prog w = .ok 2 w := fun _ => by kernel_rfl

theorem flat_at (d : Array InS) (i : Nat) (hi : i < d.size) (j : Nat) (hj : j < 2) : (flatK encIn 2 d)[i * 2 + j]! = (encIn d[i]!)[j]! := by
  rw [get_flatK _ _ _ _ (by omega)]
  have h1 : (i * 2 + j) / 2 = i := by omega
  have h2 : (i * 2 + j) % 2 = j := by omega
  rw [h1, h2]
/-- the row behind the sort -/
theorem put_cut (C : Array Value) (d : Array InS) (hC : d.size * 2 ≤ C.size) (i : Nat) (hi : i < d.size) : ((putCells id 0 (flatK encIn 2 d) C).toList.drop (i * 2)).take 2 = encIn d[i]! := by
  have hsz : (flatK encIn 2 d).size = d.size * 2 := size_flatK _ _ _
  refine List.ext_getElem? fun j => ?_
  by_cases hj : j < 2
  · rw [List.getElem?_take_of_lt hj, List.getElem?_drop, Array.getElem?_toList]
    have h1 := flat_at d i hi j hj
    have h2 : i * 2 + j < C.size := by omega
    have h3 : (putCells id 0 (flatK encIn 2 d) C)[i * 2 + j]? = some ((flatK encIn 2 d)[i * 2 + j]!) := by
      simp only [putCells, Array.getElem?_mapIdx, Array.getElem?_eq_getElem h2, Option.map_some, Nat.zero_le, true_and, Nat.zero_add, Nat.sub_zero, id, hsz]
      rw [if_pos (by omega)]
    rw [h3, h1]
    rcases j with _ | _ | j
    · rfl
    · rfl
    · omega
  · rw [List.getElem?_take_eq_none (by omega), List.getElem?_eq_none (by simp [encIn]; omega)]
theorem sortIn_uniq {xs zs : List JIn} (hnd : (xs.map (·.src)).Nodup) (hp : zs.Perm xs) (hs : zs.Pairwise fun x y => x.src ≤ y.src) : zs = sortIn xs := by
  have h1 : (sortIn xs).Perm xs := List.mergeSort_perm _ _
  have h2 : (sortIn xs).Pairwise fun x y => x.src ≤ y.src := by
    have := List.pairwise_mergeSort (le := fun x y : JIn => decide (x.src ≤ y.src)) (fun a b c => by simp; omega) (fun a b => by simp; omega) xs
    exact this.imp fun h => by simpa using h
  refine List.Perm.eq_of_pairwise (le := fun x y : JIn => x.src ≤ y.src) (fun a b ha hb hab hba => ?_) hs h2 (hp.trans h1.symm)
  have ha' := hp.mem_iff.1 ha
  have hb' := h1.mem_iff.1 hb
  obtain ⟨i, hi, rfl⟩ := List.getElem_of_mem ha'
  obtain ⟨j, hj, rfl⟩ := List.getElem_of_mem hb'
  have e : xs[i].src = xs[j].src := by omega
  have a1 := List.Nodup.idxOf_getElem hnd i (by simpa using hi)
  have a2 := List.Nodup.idxOf_getElem hnd j (by simpa using hj)
  simp only [List.getElem_map, e] at a1 a2
  have : i = j := a1.symm.trans a2
  subst this; rfl
theorem sortIn_calls {w : World} {S : List Nat} {v : Value} {xs : List JIn} (h : SlR kIn 49 w S v xs) (hn : xs.length ≤ 1073741824) (hnd : (xs.map (·.src)).Nodup) (hb : ∀ x ∈ xs, 0 ≤ x.src ∧ x.src ≤ 1073741824) :
    Calls Try.prog 33 #[v, .func (.func 34) #[] #[]] w fun e w' => e = .returned (.tuple #[]) ∧ SlR kIn 49 w' S v (sortIn xs) ∧ Ext S w w' := by
  by_cases h0 : xs = []
  · subst h0
    obtain ⟨A, cap, rfl, _⟩ := h.shape
    have hcon := AnyF.slices_SortFunc_none Try.sortIn A cap (.func (.func 34) #[] #[]) w
    change Calls Try.prog 33 _ _ _ at hcon
    refine hcon.mono ?_
    rintro e w' ⟨rfl, rfl⟩
    exact ⟨rfl, by simpa [sortIn] using h, Ext.refl _ _⟩
  · rcases h with ⟨A, rfl, rfl, rfl⟩ | ⟨g, cap, C, Ss, rfl, hc0, h1, h2, hbk, hC, hgn, rfl, hE⟩
    · exact absurd rfl h0
    obtain ⟨ys, rfl⟩ := in_split xs hb
    rw [List.length_map] at *
    have hsz : C.size = cap * 2 := hC
    have hcell : ∀ i (hi : i < ys.length), (C.toList.drop (i * 2)).take 2 = encIn ys[i] := by
      intro i hi
      obtain ⟨Si, hSi, hr⟩ := hE.2 i ((ys.map (·.1))[i]'(by simpa using hi)) (by simp [hi])
      have := hr.2
      simpa [kIn, encIn] using this
    have hSs : Ss.flatten = [] := by
      rw [List.flatten_eq_nil_iff]
      intro l hl
      obtain ⟨i, hi, rfl⟩ := List.getElem_of_mem hl
      have hi' : i < (ys.map (·.1)).length := by rw [← hE.1]; exact hi
      obtain ⟨Si, hSi, hr⟩ := hE.2 i (ys.map (·.1))[i] (List.getElem?_eq_getElem hi')
      rw [List.getElem?_eq_getElem hi] at hSi
      injection hSi with hSi
      rw [hSi]; exact hr.1
    have hH : HoldsK encIn 2 w g 0 ys.toArray := by
      intro j hj
      have hj : j < ys.length * 2 := by simpa using hj
      have hi : j / 2 < ys.length := by omega
      have hm : j % 2 < 2 := by omega
      refine ⟨?_, hbk.frozen _⟩
      rw [Nat.zero_add]
      refine hbk.cell ?_
      have h3 := congrArg (fun l => l[j % 2]?) (hcell (j / 2) hi)
      rw [List.getElem?_take_of_lt hm, List.getElem?_drop, Array.getElem?_toList, show j / 2 * 2 + j % 2 = j from by omega] at h3
      rw [h3]
      have h4 := flat_at ys.toArray (j / 2) (by simpa using hi) (j % 2) hm
      rw [show j / 2 * 2 + j % 2 = j from by omega] at h4
      rw [show (id (flatK encIn 2 ys.toArray)[j]! : Value) = (flatK encIn 2 ys.toArray)[j]! from rfl, h4]
      have h5 : ys.toArray[j / 2]! = ys[j / 2] := by simp [hi]
      rw [h5]
      rcases Nat.mod_two_eq_zero_or_one j with h6 | h6 <;> rw [h6] <;> rfl
    have eg : ∀ args w, (callFunc 34 args).run Try.prog w = .ok (.enter 34 args) w := enters_of Try.func34 (by kernel_rfl) rfl
    have hcon := AnyQ.slices_SortFunc Try.sortIn 2 aggIn sizeIn encIn (fun _ => rfl) (fun x v hv => by simp [encIn] at hv; rcases hv with rfl | rfl <;> rfl) cmpIn swoIn 34 #[] g 0 cap ys.toArray w eg (fun _ _ _ _ x y => cmp_calls x y _) hH hbk.lt (by simp; omega)
    change Calls Try.prog 33 _ _ _ at hcon
    rw [List.size_toArray] at hcon
    refine hcon.mono ?_
    rintro e w' ⟨rfl, d', n, os, hperm, hsrt, rfl⟩
    obtain ⟨hp1, _, hp2⟩ := hperm
    have hdl : d'.size = ys.length := by simpa using hp1
    have hperm' : d'.toList.Perm ys := by
      have e1 : (d'.extract 0 ys.length).toList = d'.toList := by simp [← hdl]
      have e2 : (ys.toArray.extract 0 ys.length).toList = ys := by simp
      rw [e1, e2] at hp2
      exact hp2
    have hzs : d'.toList.map (·.1) = sortIn (ys.map (·.1)) := by
      refine sortIn_uniq hnd (hperm'.map _) ?_
      rw [List.pairwise_map, List.pairwise_iff_getElem]
      intro i j hi hj hij
      have hj' : j < d'.size := by simpa using hj
      have := hsrt i j (Nat.zero_le _) hij (by simpa [← hdl] using hj')
      rw [ltIn] at this
      have e1 : d'[j]! = d'[j] := getElem!_pos d' j hj'
      have e2 : d'[i]! = d'[i]'(by omega) := getElem!_pos d' i (by omega)
      rw [e1, e2] at this
      simp at this
      simpa using this
    refine ⟨rfl, ?_, ?_⟩
    · rw [← hzs]
      have hl : (d'.toList.map (·.1)).length = ys.length := by simp [hdl]
      have hblk : Blk (sortWorldK encIn 2 w g 0 n d' os) g 49 (putCells id 0 (flatK encIn 2 d') C) := by
        unfold Blk sortWorldK putRowK
        rw [heap_grow_old _ _ (by simpa [putRow, mapBlock, Sort.ahead] using hbk.lt)]
        simp [putRow, mapBlock, Sort.ahead, Array.getElem?_modify, show w.heap[g]? = _ from hbk, onCells]
      refine .inr ⟨g, cap, _, Ss, by rw [hl], hc0, by rw [hl]; exact h1, h2, hblk, by simpa [putCells] using hC, hgn, rfl, ?_⟩
      refine ⟨by rw [hE.1, hl, List.length_map], fun i x hx => ?_⟩
      have hi : i < ys.length := by rw [← hl]; exact (List.getElem?_eq_some_iff.1 hx).1
      obtain ⟨Si, hSi, hr⟩ := hE.2 i ((ys.map (·.1))[i]'(by simpa using hi)) (by simp [hi])
      refine ⟨Si, hSi, hr.1, ?_⟩
      have h3 := put_cut C d' (by omega) i (by omega)
      have e2 : d'[i]! = d'[i]'(by omega) := getElem!_pos d' i (by omega)
      rw [e2] at h3
      have hx' : x = d'[i].1 := by
        have := (List.getElem?_eq_some_iff.1 hx).2
        rw [← this]; simp
      rw [hx']
      exact h3
    · rw [hSs]
      refine ⟨rfl, rfl, rfl, by simp [sortWorldK, putRowK, putRow, mapBlock, Sort.ahead, grow], fun k hk hne => ?_⟩
      unfold sortWorldK putRowK
      rw [heap_grow_old _ _ (by simpa [putRow, mapBlock, Sort.ahead] using hk)]
      have : g ≠ k := fun e => hne (by rw [e]; simp)
      simp [putRow, mapBlock, Sort.ahead, Array.getElem?_modify, this]
end Go.Proofs.Ytkmgbejhbkbaoaa

/- Plain: rows changed one by one. -/
namespace Go.Proofs.Ytkmgbejhbkbaoaa
set_option linter.unusedSimpArgs false
set_option linter.unusedVariables false
def mixI {α : Type} (f : Nat → α → α) (xs : List α) (i : Nat) : List α := xs.mapIdx fun j x => if j < i then f j x else x
section
variable {α : Type} {f : Nat → α → α} {xs : List α} {i j : Nat}
@[simp] theorem mixI_len : (mixI f xs i).length = xs.length := by simp [mixI]
theorem mixI_zero : mixI f xs 0 = xs := by
  refine List.ext_getElem (by simp) fun j h1 h2 => ?_
  simp [mixI]
theorem mixI_get (hj : j < xs.length) : (mixI f xs i)[j]'(by simpa using hj) = if j < i then f j xs[j] else xs[j] := by simp [mixI]
theorem mixI_at (hi : i < xs.length) : (mixI f xs i)[i]'(by simpa using hi) = xs[i] := by simp [mixI]
theorem mixI_set (hi : i < xs.length) : (mixI f xs i).set i (f i xs[i]) = mixI f xs (i + 1) := by
  refine List.ext_getElem (by simp) fun j h1 h2 => ?_
  have hj : j < xs.length := by simpa using h2
  rw [List.getElem_set, mixI_get hj, mixI_get hj]
  by_cases h : i = j
  · subst h; simp
  · rw [if_neg h]
    by_cases h3 : j < i
    · rw [if_pos h3, if_pos (by omega)]
    · rw [if_neg h3, if_neg (by omega)]
theorem mixI_all : mixI f xs xs.length = xs.mapIdx f := by
  refine List.ext_getElem (by simp) fun j h1 h2 => ?_
  have hj : j < xs.length := by simpa using h2
  rw [mixI_get hj, if_pos hj, List.getElem_mapIdx]
theorem mixI_map {g : α → α} : mixI (fun _ => g) xs xs.length = xs.map g := by
  rw [mixI_all]
  refine List.ext_getElem (by simp) fun j h1 h2 => ?_
  simp
theorem mixI_left {ys : List α} : mixI f (xs ++ ys) xs.length = xs.mapIdx f ++ ys := by
  refine List.ext_getElem (by simp) fun j h1 h2 => ?_
  have hj : j < (xs ++ ys).length := by simpa using h2
  rw [mixI_get hj]
  by_cases h : j < xs.length
  · rw [if_pos h]
    simp [h]
  · rw [if_neg h]
    simp [List.getElem_append, h]
theorem mixI_same (hi : i < xs.length) (h : f i xs[i] = xs[i]) : mixI f xs (i + 1) = mixI f xs i := by
  rw [← mixI_set hi, h]
  have := mixI_at (f := f) hi
  conv => lhs; rw [← this]
  exact List.set_getElem_self _
end
end Go.Proofs.Ytkmgbejhbkbaoaa

/- The program's split, whole. -/
namespace Go.Proofs.Ytkmgbejhbkbaoaa
set_option linter.unusedSimpArgs false
set_option linter.unusedVariables false
open Go.RowKit

def tooMany (f : JFunc) : Bool := decide (512 < f.blocks.length + (critF (ofF f.blocks)).length) || decide (4096 < f.blocks.length + thingsN f.blocks + (critF (ofF f.blocks)).length)
def splitR (f : JFunc) : Option Tro → JFunc × Int
  | some t => (⟨0, []⟩, t.1)
  | none => if tooMany f then (⟨0, []⟩, 2) else (splitF f, 0)
def SplitPost (w : World) (f : JFunc) (e : Ending) (w' : World) : Prop :=
  ∃ idom v' S', (runC (frontC f) = none → AllR (ofF f.blocks) → IdomOk (ofF f.blocks) idom) ∧ e = .returned (.tuple #[v', .int .i64 (splitR f (runC (funcC f idom))).2]) ∧ FnR w' S' v' (splitR f (runC (funcC f idom))).1 ∧ New w w' S'
theorem fnr_zero (w : World) : FnR w [] (.agg #[.int .i64 0, .slice none 0 0]) ⟨0, []⟩ := ⟨_, rfl, SlR.nil _ _ _⟩
/-- while the edges get their blocks -/
structure EInv (W4 : World) (b m : Nat) (params : Int) (bs : List JBlock) (cr : List (Nat × Nat)) (wr : World) (i : Nat) (So : List Nat) (vo : Value) : Prop where
  blk : Blk wr b 26 #[.int .i64 params, vo]
  map : MapR KpT wr m (entC bs.length (cr.take i))
  sl : SlR kBlock 43 wr So vo (bs ++ (cr.take i).map fun e => jumpB e.2)
  fresh : ∀ k ∈ So, W4.heap.size ≤ k ∧ k ≠ b ∧ k ≠ m
  nodup : So.Nodup
  ext : Ext [] W4 wr

set_option maxRecDepth 100000 in
set_option maxHeartbeats 4000000 in
theorem splitFunc_calls {w : World} {S : List Nat} {v : Value} {f : JFunc} (h : FnR w S v f) (hn : f.blocks.length ≤ 1073741824) (hs : thingsN f.blocks ≤ 1073741824) :
    Calls Try.prog 10 #[v] w (SplitPost w f) := by
  obtain ⟨vb, rfl, hb⟩ := h
  obtain ⟨A, c, rfl, hcap⟩ := hb.shape
  obtain ⟨params, bs⟩ := f
  simp only at *
  obtain ⟨W0, hW0⟩ : ∃ W0, W0 = (w.alloc (.cells #[.int .i64 params, .slice A bs.length c] 26)).alloc (.cells #[.int .i64 0, .slice none 0 0] 26) := ⟨_, rfl⟩
  have hx0 : Ext [] w W0 := by rw [hW0]; exact (((Ext.refl [] w).alloc _).alloc _)
  have hB : Blk W0 w.heap.size 26 #[.int .i64 params, .slice A bs.length c] := by rw [hW0]; exact (Blk.new _ _ _).alloc _
  have hP : Blk W0 (w.heap.size + 1) 26 #[.int .i64 0, .slice none 0 0] := by
    rw [hW0]; simpa using Blk.new (w.alloc (.cells #[.int .i64 params, .slice A bs.length c] 26)) #[.int .i64 0, .slice none 0 0] 26
  have c0 := hB.cell (i := 0) rfl
  have c1 := hB.cell (i := 1) rfl
  go_enter Try.func10, Try.ntmps10
  go_wp2_with fail
  rw [← hW0]
  clear hW0
  refine (func_calls (f := ⟨params, bs⟩) ⟨_, rfl, hb.ext0 hx0⟩ hn hs).mono ?_
  rintro e W1 ⟨idom, hid, rfl, hx1⟩
  have Hid0 := Lib.hid hid
  clear hid
  have hB1 := hB.ext hx1 (by simp)
  have hP1 := hP.ext hx1 (by simp)
  cases hr : runC (funcC ⟨params, bs⟩ idom) with
  | some t =>
    have ht := funcC_code hr
    have ht2 : (t.1 != 0) = true := by simpa using ht
    have HR := Lib.hid hr
    clear hr c0 c1
    have p0 := hP1.cell (i := 0) rfl
    have p1 := hP1.cell (i := 1) rfl
    have g0 := hP1.frozen 0
    have g1 := hP1.frozen 1
    simp only [resC]
    go_wp2
    refine bodyPost_ret (v := .tuple #[.agg #[.int .i64 0, .slice none 0 0], .int .i64 t.1]) (by simp [results, Try.results10, go_sem, p0, p1]) rfl ?_
    refine ⟨idom, _, [], Hid0.out, by rw [HR.out]; rfl, by rw [HR.out]; exact fnr_zero _, ⟨?_, by simp, by simp⟩⟩
    exact (((hx0.nil hx1).setCell (.inr (by simp)) _).setCell (.inr (by simp)) _)
  | none =>
    have hok := okC_of hr
    have HR := Lib.hid hr
    clear hr c0 c1
    have c0 := hB1.cell (i := 0) rfl
    have c1 := hB1.cell (i := 1) rfl
    simp only [resC]
    have hx1' := hx0.nil hx1
    go_wp2_with fail
    refine (of_calls (f := ⟨params, bs⟩) ⟨_, rfl, hb.ext0 hx1'⟩ hn (fun x hx => by have := hok.tolen x hx; omega)).mono ?_
    rintro e W2 ⟨v2, S2, rfl, hr2, hnew2⟩
    simp only at hr2
    have hgood := ofF_good bs
    have hgl : (ofF bs).length = bs.length := ofF_len bs
    have hmany := hok.many
    simp only at hmany
    have Hok := Lib.hid hok
    obtain ⟨g, hge⟩ : ∃ g, ofF bs = g := ⟨_, rfl⟩
    rw [hge] at hr2 hgood hgl
    have Hge := Lib.hid hge
    have hgl2 : g.length ≤ 32768 := by omega
    clear hge hok hgl
    obtain ⟨A2, c2, rfl, _⟩ := hr2.shape
    go_wp2_with fail
    refine (critical_calls hr2 hgood hgl2).mono ?_
    rintro e W3 ⟨v3, S3, rfl, hr3, hnew3⟩
    have hcnd := crit_nodup hgood
    have hclt : ∀ e ∈ critF g, e.1 < g.length ∧ e.2 < g.length := fun e he => Ed.lt hgood (mem_edgesF.1 ((List.mem_filter.1 he).1))
    obtain ⟨cr, hcr⟩ : ∃ cr, critF g = cr := ⟨_, rfl⟩
    rw [hcr] at hr3 hcnd hclt
    have Hcnd := Lib.hid hcnd
    have Hclt := Lib.hid hclt
    have hcl : cr.length ≤ 1073741824 := by
      rw [← hcr]
      refine Nat.le_trans (crit_le hgood) (Nat.le_trans (Nat.mul_le_mul hgl2 hgl2) (by decide))
    have Hcr := Lib.hid hcr
    clear hcr hcnd hclt hgood
    obtain ⟨A3, c3, rfl, _⟩ := hr3.shape
    have hx3 : Ext [] W1 W3 := hnew2.ext.nil hnew3.ext
    have hB3 := hB1.ext hx3 (by simp)
    have d1 := hB3.cell (i := 1) rfl
    have hx3' := hx1'.nil hx3
    go_wp2
    go_loopg [8, 44] bs.length (fun k vn vi wr => ∃ (i : Nat), vi = .int .i64 (i : Int) ∧ vn = .int .i64 ((cr.length + (i + thingsN (bs.take i)) : Nat) : Int) ∧ i ≤ bs.length ∧ Hid (i + k = bs.length) ∧ Ext [] W3 wr)
    case atStart => exact ⟨0, rfl, by simp [thingsN], by omega, by simp [Hid], Ext.refl _ _⟩
    case round =>
      obtain ⟨i, rfl, rfl, hi, HK, hx⟩ := hrel
      by_cases hlt : i < bs.length
      · obtain ⟨gg, _, Ap, cp, Ai, ci, Aa, ca, At, ct, Sb, Sp, Si, Sa, St, hv, hg, hsub, hbc, b0, b1, b2, b3, b4, b5⟩ := FnR.block ((hb.ext0 hx3').ext0 hx) i hlt
        cases hv
        have ht1 := thingsN_take hlt
        have ht2 := thingsN_take_le bs (i + 1)
        generalize bs[i] = x at *
        obtain ⟨tn, htn⟩ : ∃ tn, thingsN (bs.take i) = tn := ⟨_, rfl⟩
        obtain ⟨tm, htm⟩ : ∃ tm, thingsN (bs.take (i + 1)) = tm := ⟨_, rfl⟩
        rw [htn] at ht1 ⊢
        rw [htm] at ht1 ht2
        have Htm := Lib.hid htm
        have Ht1 := Lib.hid ht1
        have hb1 : cr.length + (i + tn) + (x.phis.length + x.ins.length + 1) ≤ 4294967296 := by omega
        clear htn htm ht1
        go_wp2
        go_roundg (gk - 1)
        case measure => have := HK.out; omega
        case rel => exact ⟨i + 1, by go_num, by rw [Htm.out, Ht1.out]; go_num, by omega, by have := HK.out; simp only [Hid]; omega, hx.alloc _⟩
      · have hie : i = bs.length := by omega
        subst hie
        rw [List.take_length]
        have hBr := hB3.ext hx (by simp)
        have d0 := hBr.cell (i := 0) rfl
        have d1 := hBr.cell (i := 1) rfl
        have hxr : Ext [] w wr := hx3'.nil hx
        have hPr := (hP1.ext hx3 (by simp)).ext hx (by simp)
        obtain ⟨tb, htb⟩ : ∃ tb, tooMany ⟨params, bs⟩ = tb := ⟨_, rfl⟩
        have hsp : (512 < bs.length + cr.length ∧ tb = true) ∨ (¬ 512 < bs.length + cr.length ∧ 4096 < cr.length + (bs.length + thingsN bs) ∧ tb = true) ∨ (¬ 512 < bs.length + cr.length ∧ ¬ 4096 < cr.length + (bs.length + thingsN bs) ∧ tb = false) := by
          rw [← htb]
          simp only [tooMany, Hge.out, Hcr.out]
          by_cases h1 : 512 < bs.length + cr.length
          · exact .inl ⟨h1, by simp [h1]⟩
          · by_cases h2 : 4096 < cr.length + (bs.length + thingsN bs)
            · exact .inr (.inl ⟨h1, h2, by simp; omega⟩)
            · exact .inr (.inr ⟨h1, h2, by simp; omega⟩)
        have Htb := Lib.hid htb
        clear htb
        have p0 := hPr.cell (i := 0) rfl
        have p1 := hPr.cell (i := 1) rfl
        have g0 := hPr.frozen 0
        have g1 := hPr.frozen 1
        have HE : Hid (tb = true → ∀ W', Ext [] w W' → SplitPost w ⟨params, bs⟩ (.returned (.tuple #[.agg #[.int .i64 0, .slice none 0 0], .int .i64 2])) W') := fun ht W' hx' => by
          have e : splitR ⟨params, bs⟩ (runC (funcC ⟨params, bs⟩ idom)) = (⟨0, []⟩, 2) := by rw [HR.out, splitR, Htb.out, ht]; rfl
          exact ⟨idom, _, [], Hid0.out, by rw [e], by rw [e]; exact fnr_zero _, ⟨hx', by simp, by simp⟩⟩
        rcases hsp with ⟨h1, rfl⟩ | ⟨h1, h2, rfl⟩ | ⟨h1, h2, rfl⟩
        · have hd1 : decide (512 < (bs.length : Int) + (cr.length : Int)) = true := by simp; omega
          go_wp2
          refine bodyPost_ret (v := .tuple #[.agg #[.int .i64 0, .slice none 0 0], .int .i64 2]) (by simp [results, Try.results10, go_sem, p0, p1]) rfl ?_
          exact HE.out (by trivial) _ ((hxr.setCell (.inr (by simp)) _).setCell (.inr (by simp)) _)
        · have hd1 : decide (512 < (bs.length : Int) + (cr.length : Int)) = false := by simp; omega
          have hd2 : decide (4096 < (cr.length : Int) + ((bs.length : Int) + (thingsN bs : Int))) = true := by simp; omega
          go_wp2
          refine bodyPost_ret (v := .tuple #[.agg #[.int .i64 0, .slice none 0 0], .int .i64 2]) (by simp [results, Try.results10, go_sem, p0, p1]) rfl ?_
          exact HE.out (by trivial) _ ((hxr.setCell (.inr (by simp)) _).setCell (.inr (by simp)) _)
        · have hd1 : decide (512 < (bs.length : Int) + (cr.length : Int)) = false := by simp; omega
          have hd2 : decide (4096 < (cr.length : Int) + ((bs.length : Int) + (thingsN bs : Int))) = false := by simp; omega
          obtain ⟨W4, hW4⟩ : ∃ W4, W4 = wr := ⟨_, rfl⟩
          subst hW4
          have hsm := okC_small Hok.out
          simp only at hsm
          have Hsm := Lib.hid hsm
          clear hsm p0 p1 g0 g1 HE
          go_wp2_with fail
          refine (own_calls (f := ⟨params, bs⟩) ⟨_, rfl, hb.ext0 hxr⟩ hn Hsm.out).mono ?_
          rintro e W5 ⟨v5, S5, rfl, ⟨vb5, rfl, h5⟩, hnew5⟩
          obtain ⟨A5, c5, rfl, _⟩ := h5.shape
          obtain ⟨b, hbq⟩ : ∃ b, b = W5.heap.size := ⟨_, rfl⟩
          have hb4 : W4.heap.size ≤ b := by rw [hbq]; exact hnew5.ext.size
          have Hb4 := Lib.hid hb4
          clear hb4
          obtain ⟨W6, hW6⟩ : ∃ W6, W6 = (W5.alloc (.cells #[.int .i64 params, .slice A5 bs.length c5] 26)).alloc (.map #[] 0) := ⟨_, rfl⟩
          have hx56 : Ext [] W5 W6 := by rw [hW6]; exact ((Ext.refl _ _).alloc _).alloc _
          have hI0 : EInv W4 b (b + 1) params bs cr W6 0 S5 (.slice A5 bs.length c5) := by
            refine ⟨?_, ?_, ?_, fun k hk => ?_, hnew5.nodup, hnew5.ext.nil hx56⟩
            · rw [hW6, hbq]; exact (Blk.new _ _ _).alloc _
            · rw [hW6, hbq]; simpa [entC] using MapR.new (Kp := KpT) (W5.alloc (.cells #[.int .i64 params, .slice A5 bs.length c5] 26))
            · simpa using h5.ext0 hx56
            · have h1 := h5.lt k hk
              have h2 := hnew5.fresh k hk
              rw [hbq]; omega
          have HI0 := Lib.hid hI0
          have hmm := @run_makeMap Try.prog
          clear hI0
          go_wp2
          rw [← hW6, ← hbq]
          clear hW6 hbq hmm
          go_loopg [76] cr.length (fun k vi wr => ∃ (i : Nat) (So : List Nat) (vo : Value), vi = .int .i64 (i : Int) ∧ i ≤ cr.length ∧ Hid (i + k = cr.length) ∧ Hid (EInv W4 b (b + 1) params bs cr wr i So vo))
          case atStart => exact ⟨0, _, _, rfl, by omega, by simp [Hid], HI0⟩
          case round =>
            obtain ⟨i, So, vo, rfl, hi, HK, HI⟩ := hrel
            clear HI0
            by_cases hlt : i < cr.length
            · obtain ⟨gc, Sj, cs, rfl, _, _, ⟨_, rfl⟩, hcj⟩ := (((hr3.ext0 hx).ext0 HI.out.ext).cells i hlt)
              have e0 := hcj 0 _ rfl
              have e1 := hcj 1 _ rfl
              simp only [kTwo, Nat.add_zero] at e0 e1
              have Hs := Lib.hid (entC_succ (n := bs.length) hlt)
              have Hs2 : Hid (cr.take (i + 1) = cr.take i ++ [cr[i]]) := by rw [Hid, List.take_succ_eq_append_getElem hlt]
              have hlt2 := Hclt.out cr[i] (List.getElem_mem hlt)
              have hno : ∀ p ∈ entC bs.length (cr.take i), p.1 ≠ keyV cr[i] := by
                rintro ⟨k, v⟩ hp he
                obtain ⟨j, hj, hk, _⟩ := mem_entC.1 hp
                rw [hk] at he
                have h2 := keyV_inj he
                have hj2 : j < i := by have := hj; rw [List.length_take] at this; omega
                rw [List.getElem_take] at h2
                have h3 := List.Nodup.idxOf_getElem Hcnd.out j (by omega)
                have h4 := List.Nodup.idxOf_getElem Hcnd.out i hlt
                rw [h2] at h3
                omega
              have Hno := Lib.hid hno
              clear hno hcj
              have hgl := hgl2
              generalize cr[i] = ed at *
              obtain ⟨ea, eb⟩ := ed
              obtain ⟨q, hq⟩ : ∃ q, q = bs.length + i := ⟨_, rfl⟩
              obtain ⟨Ao, co, hvo, _⟩ := HI.out.sl.shape
              have hvl : (bs ++ (cr.take i).map fun e => jumpB e.2).length = q := by rw [hq]; simp [List.length_take]; omega
              rw [hvl] at hvo
              subst hvo
              have HQ := Lib.hid hq
              have hq2 : q ≤ 1073741824 := by omega
              have Hvl := Lib.hid hvl
              have hB0 := HI.out.blk.cell (i := 0) rfl
              have hB1' := HI.out.blk.cell (i := 1) rfl
              clear hq hvl
              obtain ⟨W7, hW7⟩ : ∃ W7, W7 = wr.alloc (.cells #[.int .i64 (ea : Int), .int .i64 (eb : Int)] 77) := ⟨_, rfl⟩
              have hx7 : Ext [] wr W7 := by rw [hW7]; exact (Ext.refl _ _).alloc _
              have hbe : Blk W7 wr.heap.size 77 #[.int .i64 (ea : Int), .int .i64 (eb : Int)] := by rw [hW7]; exact Blk.new _ _ _
              obtain ⟨W8, hput, hm8, hx8⟩ := (HI.out.map.ext hx7 (by simp)).put klTwo Try.underlying76 ⟨ea, eb, rfl, by omega, by omega⟩ Hno.out (.int .i64 (q : Int))
              rw [hW7] at hput
              simp only at e0 e1
              have hbm : wr.heap.size ≠ b + 1 := by have := HI.out.map.lt; omega
              have hb8 := hbe.ext hx8 (by simpa using hbm)
              have f1 := hb8.cell (i := 1) rfl
              have hB8 := (HI.out.blk.ext hx7 (by simp)).ext hx8 (by simp)
              have h81 := hB8.cell (i := 1) rfl
              have h8f := hB8.frozen 1
              have hbl := HI.out.blk.lt
              clear hbe
              obtain ⟨W9, hW9⟩ : ∃ W9, W9 = (W8.alloc (.cells #[.int .i64 (eb : Int)] 3)).alloc (.cells #[.slice none 0 0, .slice none 0 0, .int .i64 1, .slice none 0 0, .slice (some ⟨W8.heap.size, 0, none⟩) 1 1, .int .i32 0] 43) := ⟨_, rfl⟩
              have hx9 : Ext [] W8 W9 := by rw [hW9]; exact ((Ext.refl _ _).alloc _).alloc _
              have hfrs := HI.out.fresh
              have hSo : ∀ k ∈ So, k ∉ [b + 1] := fun k hk => by have := (hfrs k hk).2.2; simpa using this
              have hbSo : b ∉ So := fun hk => (hfrs b hk).2.1 rfl
              have hsl9 := ((HI.out.sl.ext0 hx7).ext hx8 hSo).ext0 hx9
              have hB9 := hB8.ext hx9 (by simp)
              have hto : SlR kInt 3 W9 [W8.heap.size] (.slice (some ⟨W8.heap.size, 0, none⟩) 1 1) [(eb : Int)] := by
                rw [hW9]
                have := made_lit (w := W8) (x := [(eb : Int)]) (by simp) (by simp)
                exact SlR.ext0 (by simpa using this) ((Ext.refl _ _).alloc _)
              have hrep : kBlock.rep W9 [W8.heap.size] (jumpB eb) [.slice none 0 0, .slice none 0 0, .int .i64 1, .slice none 0 0, .slice (some ⟨W8.heap.size, 0, none⟩) 1 1, .int .i32 0] :=
                ⟨_, _, _, _, [], [], [], [W8.heap.size], rfl, ⟨SlR.nil _ _ _, SlR.nil _ _ _, SlR.nil _ _ _, hto, by simp⟩⟩
              have hone := Kd.one kBlock hrep
              have hdis : ∀ k ∈ [[W8.heap.size]].flatten, k ∉ So := fun k hk hk2 => by
                have h1 := HI.out.sl.lt k hk2
                have h2 := hx7.size
                have h3 := hx8.size
                simp at hk; omega
              have hfl : (bs ++ (cr.take i).map fun e => jumpB e.2).length ≤ 1073741824 := by rw [Hvl.out]; exact hq2
              have hsrc : Src ((W8.alloc (.cells #[.int .i64 (eb : Int)] 3)).alloc (.cells #[.slice none 0 0, .slice none 0 0, .int .i64 1, .slice none 0 0, .slice (some ⟨W8.heap.size, 0, none⟩) 1 1, .int .i32 0] 43)) (.slice (some ⟨W8.heap.size + 1, 0, none⟩) 1 1) 1 [.slice none 0 0, .slice none 0 0, .int .i64 1, .slice none 0 0, .slice (some ⟨W8.heap.size, 0, none⟩) 1 1, .int .i32 0] := by
                simpa using Src.blk (w := W8.alloc (.cells #[.int .i64 (eb : Int)] 3)) (cs := [.slice none 0 0, .slice none 0 0, .int .i64 1, .slice none 0 0, .slice (some ⟨W8.heap.size, 0, none⟩) 1 1, .int .i32 0]) (T := 43) 1
              have Hsrc := Lib.hid hsrc
              clear hsrc
              rw [hW9] at hsl9 hrep hB9
              have Hsl9 := Lib.hid hsl9
              have Hrep := Lib.hid hrep
              have HB9 := Lib.hid hB9
              have Hone := Lib.hid hone
              have Hdis := Lib.hid hdis
              have HbSo := Lib.hid hbSo
              have Hhx9 := Lib.hid hx9
              have HW9 := Lib.hid hW9
              have Hx8 := Lib.hid hx8
              have Hfrs := Lib.hid hfrs
              have HSo := Lib.hid hSo
              have Hfl := Lib.hid hfl
              clear hsl9 hrep hB9 hone hdis hbSo hx9 hW9 hfrs hSo hto hx8 hfl
              go_wp2_with (at_builtin; refine wpList_append_sl (d := kBlock) (ys := [jumpB eb]) rfl (.tmp 86) (.tmp 92) 24 rfl ei_block rfl Hsl9.out rfl [.slice none 0 0, .slice none 0 0, .int .i64 1, .slice none 0 0, .slice (some ⟨W8.heap.size, 0, none⟩) 1 1, .int .i32 0] [[W8.heap.size]] (elems_single Hrep.out) rfl Hone.out Hsrc.out Hdis.out (le_maxLen Hfl.out) (le_bytesB Hfl.out (by decide)) ?_; intro v' w' S' hs' hx' hf' hn'; have hB' := HB9.out.ext hx' HbSo.out; have u0 := hB'.cell (i := 1) rfl; have u1 := hB'.frozen 1; obtain ⟨A', c', rfl, _⟩ := hs'.shape)
              have hfrs := Hfrs.out
              have hS' : ∀ k ∈ S', W4.heap.size ≤ k ∧ k ≠ b ∧ k ≠ b + 1 := fun k hk => by
                have h1 := HI.out.ext.size
                have h2 := hx7.size
                have h3 := Hx8.out.size
                have h4 := HI.out.blk.lt
                have h5 := HI.out.map.lt
                rcases hf' k hk with h | h | h
                · exact hfrs k h
                · simp at h; omega
                · simp at h; omega
              have hbS : b ∉ S' := fun hk => (hS' b hk).2.1 rfl
              go_roundg (gk - 1)
              case measure => have := HK.out; omega
              case rel =>
                refine ⟨i + 1, S', .slice A' (bs.length + (i + 1)) c', by go_num, by omega, by have := HK.out; simp only [Hid]; omega, ?_⟩
                have hb4' := Hb4.out
                have hxW : Ext So W8 w' := (Hhx9.out.mono (M' := So) (by simp)).same (by rw [HW9.out]; exact hx')
                have hmn : MapR KpT w' (b + 1) (entC bs.length (cr.take (i + 1))) := by
                  rw [Hs.out]
                  have := hm8.ext hxW (fun hk => (hfrs _ hk).2.2 rfl)
                  rw [← HQ.out]; exact this
                have hlen : (bs ++ (cr.take i).map (fun e => jumpB e.2) ++ [jumpB eb]).length = bs.length + (i + 1) := by
                  have := Hvl.out; have := HQ.out; simp only [List.length_append] at *; simp; omega
                have hsn : SlR kBlock 43 w' S' (.slice A' (bs.length + (i + 1)) c') (bs ++ (cr.take (i + 1)).map fun e => jumpB e.2) := by
                  rw [hlen] at hs'
                  rw [Hs2.out, List.map_append, ← List.append_assoc]; exact hs'
                refine ⟨?_, hmn.move (Below.heap_setCell w' ⟨b, 1, none⟩ _ (b + 1) (by simp)), hsn.move (fun k hk => Below.heap_setCell w' ⟨b, 1, none⟩ _ k (fun e => hbS (by have e' : k = b := e; rw [← e']; exact hk))), hS', hn' HI.out.nodup (by simp), ?_⟩
                · simpa using hB'.set 1 (.slice A' (bs.length + (i + 1)) c')
                · have e1 : Ext [] W4 W8 := (HI.out.ext.nil hx7).trans Hx8.out (fun k hk => .inr (by simp at hk; omega))
                  have e2 : Ext [] W4 w' := e1.trans hxW (fun k hk => .inr (hfrs k hk).1)
                  exact e2.setCell (.inr hb4') _
            · have hie : i = cr.length := by omega
              subst hie
              obtain ⟨W10, hW10⟩ : ∃ W10, W10 = wr := ⟨_, rfl⟩
              subst hW10
              have hI := HI.out
              obtain ⟨Iblk, Imap, Isl, Ifr, Ind, Iext⟩ := hI
              rw [List.take_length] at Imap Isl
              obtain ⟨Ao, co, rfl, _⟩ := Isl.shape
              obtain ⟨qn, hqn⟩ : ∃ qn, qn = bs.length + cr.length := ⟨_, rfl⟩
              have hL0 : (bs ++ cr.map fun e => jumpB e.2).length = qn := by rw [hqn]; simp
              obtain ⟨L0, hL⟩ : ∃ L0, L0 = bs ++ cr.map fun e => jumpB e.2 := ⟨_, rfl⟩
              rw [← hL] at Isl hL0 Iblk
              rw [hL0] at Isl Iblk
              have HL0 := Lib.hid hL0
              have HL := Lib.hid hL
              have Hqn := Lib.hid hqn
              have hqn2 : bs.length ≤ qn := by omega
              have hqn3 : qn ≤ 512 := by omega
              have HLa : Hid (∀ a (ha : a < bs.length), L0[a]? = some bs[a]) := fun a ha => by rw [hL, List.getElem?_append_left ha, List.getElem?_eq_getElem ha]
              have hxw10 := hxr.nil Iext
              have hB10 := (hBr.ext Iext (by simp))
              have d2 := hB10.cell (i := 1) rfl
              have hbSo : b ∉ So := fun hk => (Ifr b hk).2.1 rfl
              have hmSo : b + 1 ∉ So := fun hk => (Ifr (b + 1) hk).2.2 rfl
              have HbSo := Lib.hid hbSo
              have HmSo := Lib.hid hmSo
              have HInd := Lib.hid Ind
              have HIfr := Lib.hid Ifr
              clear hL0 hL hqn hbSo hmSo Ind Ifr HI
              go_wp2
              go_loopg [99] bs.length (fun k vi wr => ∃ (a : Nat), vi = .int .i64 (a : Int) ∧ a ≤ bs.length ∧ Hid (a + k = bs.length) ∧ Hid (SlR kBlock 43 wr So (.slice Ao qn co) (mixI (fixB bs.length cr) L0 a)) ∧ Ext So W10 wr)
              case atStart => exact ⟨0, rfl, by omega, by simp [Hid], by rw [mixI_zero]; exact Isl, Ext.refl _ _⟩
              case round =>
                obtain ⟨a, rfl, ha, HK, Hsl, hx11⟩ := hrel
                obtain ⟨q0, hq0⟩ : ∃ x, x = gk := ⟨_, rfl⟩
                subst hq0
                by_cases hlt : a < bs.length
                · have hal : a < L0.length := by have := HL0.out; omega
                  obtain ⟨g0, cap0, Sb, cs, hv, hat⟩ := Hsl.out.at a (by simpa using hal)
                  have hml : (mixI (fixB bs.length cr) L0 a).length = qn := by rw [mixI_len]; exact HL0.out
                  rw [hml] at hv
                  clear hml
                  cases hv
                  have hga : (mixI (fixB bs.length cr) L0 a)[a]'(by simpa using hal) = bs[a] := by rw [mixI_at hal]; exact (List.getElem?_eq_some_iff.1 (HLa.out a hlt)).2
                  have hrep : kBlock.rep wr Sb bs[a] cs := by rw [← hga]; exact hat.rep
                  have Hga := Lib.hid hga
                  have Hxa := Lib.hid (HLa.out a hlt)
                  clear hga
                  obtain ⟨vp, vi, va, vt, Sp, Si, Sa, St, rfl, hr⟩ := hrep
                  obtain ⟨Ap, cp, rfl, _⟩ := hr.p.shape
                  obtain ⟨At, ct, rfl, _⟩ := hr.t.shape
                  have z4 := hat.cell 4 rfl
                  have z0 := hat.cell 0 rfl
                  simp only [kBlock, Nat.add_zero] at z4 z0
                  have hnb := hat.nodup HInd.out
                  have hgn := hat.notin
                  have hmS := hat.mem
                  have hsS := hr.s
                  subst hsS
                  have hD : (∀ k ∈ St, k ∉ Sp ∧ k ∉ Si ∧ k ∉ Sa ∧ k ≠ g0 ∧ k ∈ So) ∧ (∀ k ∈ Sp, k ∉ St ∧ k ∉ Si ∧ k ∉ Sa ∧ k ≠ g0 ∧ k ∈ So) ∧ Sp.Nodup := by
                    obtain ⟨n1, n2, n3⟩ := List.nodup_append.1 hnb
                    obtain ⟨n4, n5, n6⟩ := List.nodup_append.1 n2
                    obtain ⟨n7, n8, n9⟩ := List.nodup_append.1 n5
                    refine ⟨fun k hk => ⟨fun h => n3 k h k (by simp [hk]) rfl, fun h => n6 k h k (by simp [hk]) rfl, fun h => n9 k h k hk rfl, ?_, hmS.2 k (by simp [hk])⟩, fun k hk => ⟨fun h => n3 k hk k (by simp [h]) rfl, fun h => n3 k hk k (by simp [h]) rfl, fun h => n3 k hk k (by simp [h]) rfl, ?_, hmS.2 k (by simp [hk])⟩, n1⟩
                    · rintro rfl; exact hgn (by simp [hk])
                    · rintro rfl; exact hgn (by simp [hk])
                  have Hto := Lib.hid (Hok.out.to bs[a] (List.getElem_mem hlt))
                  have Hph := Lib.hid (Hok.out.phis a hlt)
                  have HD := Lib.hid hD
                  have Hr := Lib.hid hr
                  have Hat := Lib.hid hat
                  have Hx11 := Lib.hid hx11
                  have hBb := Iblk.ext hx11 HbSo.out
                  have hM := Imap.ext hx11 HmSo.out
                  have HM := Lib.hid hM
                  have HmS := Lib.hid hmS
                  have Hgn := Lib.hid hgn
                  have u1 := hBb.cell (i := 1) rfl
                  have haq : a < qn := by omega
                  clear hat hr hD hnb hgn hmS hM Hsl
                  simp only at Hto Hph
                  have htl := (Hok.out.tolen bs[a] (List.getElem_mem hlt)).1
                  have hpl : bs[a].phis.length ≤ 4096 := by
                    have h1 := thingsN_mem (List.getElem_mem hlt)
                    have h2 := Hok.out.things
                    simp only at h2; omega
                  have hpi := Lib.hid ((Hsm.out bs[a] (List.getElem_mem hlt)).2.2.1)
                  generalize bs[a] = x at *
                  obtain ⟨W11, hW11⟩ : ∃ W11, W11 = wr := ⟨_, rfl⟩
                  subst hW11
                  go_wp2
                  go_loopg [112] x.term.to.length (fun k vi wr => ∃ (i : Nat), vi = .int .i64 (i : Int) ∧ i ≤ x.term.to.length ∧ Hid (i + k = x.term.to.length) ∧ Hid (SlR kInt 3 wr St (.slice At x.term.to.length ct) (mixI (fun _ => fixT bs.length cr a) x.term.to i)) ∧ Ext St W11 wr)
                  case atStart => exact ⟨0, rfl, by omega, by simp [Hid], by rw [mixI_zero]; exact Hr.out.t, Ext.refl _ _⟩
                  case round =>
                    obtain ⟨i, rfl, hi, HK2, Hs, hx12⟩ := hrel
                    by_cases hl2 : i < x.term.to.length
                    · obtain ⟨gt, ctt, hv, hS, hc, hfz⟩ := Hs.out.cell i (by simpa using hl2)
                      rw [mixI_len] at hv
                      cases hv
                      have hge : (mixI (fun _ => fixT bs.length cr a) x.term.to i)[i]'(by simpa using hl2) = x.term.to[i] := mixI_at hl2
                      rw [hge] at hc
                      have htb := Hto.out x.term.to[i] (List.getElem_mem hl2)
                      have Hset := Lib.hid (mixI_set (f := fun _ => fixT bs.length cr a) hl2)
                      have Hsame : Hid (fixT bs.length cr a x.term.to[i] = x.term.to[i] → mixI (fun _ => fixT bs.length cr a) x.term.to (i + 1) = mixI (fun _ => fixT bs.length cr a) x.term.to i) := fun h => mixI_same hl2 h
                      clear hge
                      generalize x.term.to[i] = t at *
                      obtain ⟨tn, rfl⟩ : ∃ tn : Nat, t = (tn : Int) := ⟨t.toNat, by omega⟩
                      have hft : fixT bs.length cr a (tn : Int) = match lookC bs.length cr a tn with | some k => (k : Int) | none => (tn : Int) := rfl
                      have hlk := look_two (HM.out.ext hx12 (fun hk => HmSo.out (HD.out.1 _ hk).2.2.2.2)) Hcnd.out (a := a) (t := tn) (by omega) (by omega)
                      have z4' := hx12.cell z4 (fun hk => (HD.out.1 _ hk).2.2.2.1 rfl)
                      cases hcase : lookC bs.length cr a tn with
                      | none =>
                        rw [hcase] at hlk hft
                        simp only [Option.getD_none, Option.isSome_none] at hlk
                        have Hft := Lib.hid hft
                        clear hft hcase
                        go_wp2
                        go_roundg (gk - 1)
                        case measure => have := HK2.out; omega
                        case rel => exact ⟨i + 1, by go_num, by omega, by have := HK2.out; simp only [Hid]; omega, by rw [Hsame.out Hft.out]; exact Hs, hx12⟩
                      | some kk =>
                        rw [hcase] at hlk hft
                        simp only [Option.getD_some, Option.isSome_some] at hlk
                        have Hft := Lib.hid hft
                        clear hft hcase
                        go_wp2
                        go_roundg (gk - 1)
                        case measure => have := HK2.out; omega
                        case rel =>
                          refine ⟨i + 1, by go_num, by omega, by have := HK2.out; simp only [Hid]; omega, ?_, hx12.setCell (.inl (by rw [hS]; simp)) _⟩
                          have hst := Hs.out.set i (by simpa using hl2) (kk : Int)
                          have h5 := Hset.out
                          rw [Hft.out] at h5
                          rw [← h5]
                          exact hst
                    · have hie : i = x.term.to.length := by omega
                      subst hie
                      obtain ⟨W12, hW12⟩ : ∃ W12, W12 = wr := ⟨_, rfl⟩
                      subst hW12
                      have z0' := hx12.cell z0 (fun hk => (HD.out.1 _ hk).2.2.2.1 rfl)
                      have HT : Hid (SlR kInt 3 W12 St (.slice At x.term.to.length ct) (x.term.to.map (fixT bs.length cr a))) := by
                        have := Hs.out; rw [mixI_map] at this; exact this
                      have Hp12 := Lib.hid (Hr.out.p.ext hx12 (fun k hk hk2 => (HD.out.1 k hk2).1 hk))
                      clear Hs
                      go_wp2
                      go_loopg [140] x.phis.length (fun k vi wr => ∃ (j : Nat), vi = .int .i64 (j : Int) ∧ j ≤ x.phis.length ∧ Hid (j + k = x.phis.length) ∧ Hid (SlR kPhi 46 wr Sp (.slice Ap x.phis.length cp) (mixI (fun _ => fixP bs.length cr a) x.phis j)) ∧ Ext Sp W12 wr)
                      case atStart => exact ⟨0, rfl, by omega, by simp [Hid], by rw [mixI_zero]; exact Hp12, Ext.refl _ _⟩
                      case round =>
                        obtain ⟨j, rfl, hj, HK3, Hs3, hx13⟩ := hrel
                        obtain ⟨q1, hq1⟩ : ∃ x, x = gk := ⟨_, rfl⟩
                        subst hq1
                        clear Hp12
                        by_cases hl3 : j < x.phis.length
                        · obtain ⟨gp, capp, Sj, cs, hv, hat2⟩ := Hs3.out.at j (by simpa using hl3)
                          rw [mixI_len] at hv
                          cases hv
                          have hgj : (mixI (fun _ => fixP bs.length cr a) x.phis j)[j]'(by simpa using hl3) = x.phis[j] := mixI_at hl3
                          have hrep : kPhi.rep wr Sj x.phis[j] cs := by rw [← hgj]; exact hat2.rep
                          obtain ⟨vj, rfl, hvj⟩ := hrep
                          obtain ⟨Aj, cj, rfl, _⟩ := hvj.shape
                          have y0 := hat2.cell 0 rfl
                          have y1 := hat2.cell 1 rfl
                          simp only [kPhi, Nat.add_zero] at y0 y1
                          have Hfix := Lib.hid (fix_srcs hlt (Hph.out x.phis[j] (List.getElem_mem hl3)) bs.length rfl cr a)
                          have Hsrc := Lib.hid (Hph.out x.phis[j] (List.getElem_mem hl3))
                          have Hset := Lib.hid (mixI_set (f := fun _ => fixP bs.length cr a) hl3)
                          have hil := hpi.out x.phis[j] (List.getElem_mem hl3)
                          have Hndj := Lib.hid (hat2.nodup HD.out.2.2)
                          have hgpj := hat2.notin
                          have hmSp := hat2.mem
                          have HgpSp := Lib.hid hmSp
                          have Hgpj := Lib.hid hgpj
                          have hltp := hat2.lt
                          have Hltj := Lib.hid hvj.lt
                          have Hat2 := Lib.hid hat2
                          clear hat2 hgj hgpj hmSp Hs3
                          generalize x.phis[j] = p at *
                          obtain ⟨W13, hW13⟩ : ∃ W13, W13 = wr.alloc (.cells #[.int .i64 p.dst, .slice Aj p.ins.length cj] 46) := ⟨_, rfl⟩
                          obtain ⟨gq, hgq⟩ : ∃ gq, gq = wr.heap.size := ⟨_, rfl⟩
                          have hxq : Ext [] wr W13 := by rw [hW13]; exact (Ext.refl _ _).alloc _
                          have hbq : Blk W13 gq 46 #[.int .i64 p.dst, .slice Aj p.ins.length cj] := by rw [hW13, hgq]; exact Blk.new _ _ _
                          have hgqj : gq ∉ Sj := fun hk => by have := Hltj.out gq hk; omega
                          have t1 := hbq.cell (i := 1) rfl
                          have Hgq := Lib.hid hgq
                          have Hgqj := Lib.hid hgqj
                          have Hvj := Lib.hid (hvj.ext0 hxq)
                          clear hvj hgqj
                          go_wp2
                          rw [← hW13, ← hgq]
                          clear hW13 hgq y0 y1
                          go_wp2
                          go_loopg [147] p.ins.length (fun k vi wr => ∃ (i : Nat), vi = .int .i64 (i : Int) ∧ i ≤ p.ins.length ∧ Hid (i + k = p.ins.length) ∧ Hid (SlR kIn 49 wr Sj (.slice Aj p.ins.length cj) (mixI (fun _ => fixIn bs.length cr a) p.ins i)) ∧ Ext Sj W13 wr)
                          case atStart => exact ⟨0, rfl, by omega, by simp [Hid], by rw [mixI_zero]; exact Hvj, Ext.refl _ _⟩
                          case round =>
                            obtain ⟨i, rfl, hi, HK4, Hs4, hx14⟩ := hrel
                            clear Hvj
                            by_cases hl4 : i < p.ins.length
                            · obtain ⟨gi, capi, Se, cse, hv, hat3⟩ := Hs4.out.at i (by simpa using hl4)
                              rw [mixI_len] at hv
                              cases hv
                              have hge : (mixI (fun _ => fixIn bs.length cr a) p.ins i)[i]'(by simpa using hl4) = p.ins[i] := mixI_at hl4
                              have hrep : kIn.rep wr Se p.ins[i] cse := by rw [← hge]; exact hat3.rep
                              have hm : p.ins[i].src ∈ (prd (ofF bs) a).map Int.ofNat := by rw [← Hsrc.out]; exact List.mem_map.2 ⟨_, List.getElem_mem hl4, rfl⟩
                              obtain ⟨s, hs1, hse⟩ := List.mem_map.1 hm
                              have hsl : s < bs.length := by
                                have := (Ed.lt (ofF_good bs) ((mem_prd (by simpa using hlt)).1 hs1)).1
                                simpa using this
                              have hse2 : p.ins[i].src = (s : Int) := hse.symm
                              have Hset4 := Lib.hid (mixI_set (f := fun _ => fixIn bs.length cr a) hl4)
                              have Hsame4 : Hid (fixIn bs.length cr a p.ins[i] = p.ins[i] → mixI (fun _ => fixIn bs.length cr a) p.ins (i + 1) = mixI (fun _ => fixIn bs.length cr a) p.ins i) := fun h => mixI_same hl4 h
                              obtain ⟨rfl, rfl⟩ := hrep
                              have v0 := hat3.cell 0 rfl
                              simp only [kIn, Nat.add_zero] at v0
                              have fz := hat3.frozen (i * 2)
                              have Hat3 := Lib.hid hat3
                              clear hge hm hs1 hse hat3
                              generalize p.ins[i] = ie at *
                              obtain ⟨es, ev⟩ := ie
                              simp only at hse2 v0
                              subst hse2
                              have hbx := hbq.ext hx14 Hgqj.out
                              have t1 := hbx.cell (i := 1) rfl
                              have hft : fixIn bs.length cr a ⟨(s : Int), ev⟩ = ⟨match lookC bs.length cr s a with | some k => (k : Int) | none => (s : Int), ev⟩ := rfl
                              have hM4 := (((HM.out.ext hx12 (fun hk => HmSo.out (HD.out.1 _ hk).2.2.2.2)).ext hx13 (fun hk => HmSo.out (HD.out.2.1 _ hk).2.2.2.2)).ext hxq (by simp)).ext hx14 (fun hk => HmSo.out (HD.out.2.1 _ (HgpSp.out.2 _ hk)).2.2.2.2)
                              have hlk := look_two hM4 Hcnd.out (a := s) (t := a) (by omega) (by omega)
                              clear hM4
                              cases hcase : lookC bs.length cr s a with
                              | none =>
                                rw [hcase] at hlk hft
                                simp only [Option.getD_none, Option.isSome_none] at hlk
                                have Hft := Lib.hid hft
                                clear hft hcase
                                go_wp2
                                go_roundg (gk - 1)
                                case measure => have := HK4.out; omega
                                case rel => exact ⟨i + 1, by go_num, by omega, by have := HK4.out; simp only [Hid]; omega, by rw [Hsame4.out Hft.out]; exact Hs4, hx14⟩
                              | some kk =>
                                rw [hcase] at hlk hft
                                simp only [Option.getD_some, Option.isSome_some] at hlk
                                have Hft := Lib.hid hft
                                clear hft hcase
                                go_wp2
                                go_roundg (gk - 1)
                                case measure => have := HK4.out; omega
                                case rel =>
                                  refine ⟨i + 1, by go_num, by omega, by have := HK4.out; simp only [Hid]; omega, ?_, hx14.setCell (.inl Hat3.out.mem.1) _⟩
                                  have hst := Hat3.out.putS Hndj.out (x' := ⟨(kk : Int), ev⟩) 0 (by decide) (.int .i64 (kk : Int)) ⟨rfl, rfl⟩
                                  have h5 := Hset4.out
                                  rw [Hft.out] at h5
                                  simp only [kIn, Nat.add_zero, mixI_len] at hst
                                  rw [← h5]
                                  exact hst
                            · have hie : i = p.ins.length := by omega
                              subst hie
                              have hbx := hbq.ext hx14 Hgqj.out
                              have t1 := hbx.cell (i := 1) rfl
                              have h4 := Hs4.out
                              rw [mixI_map] at h4
                              have Hsl4 := Lib.hid h4
                              clear h4 Hs4
                              go_wp2_with fail
                              refine (sortIn_calls Hsl4.out (by rw [List.length_map]; exact hil) Hfix.out.1 (fun y hy => by have := Hfix.out.2 y hy; omega)).mono ?_
                              rintro e w5 ⟨rfl, h5, hx5⟩
                              go_wp2
                              go_roundg (q1 - 1)
                              case measure => have := HK3.out; omega
                              case rel =>
                                have hsub := HgpSp.out.2
                                refine ⟨j + 1, by go_num, by omega, by have := HK3.out; simp only [Hid]; omega, ?_, ((hx13.nil hxq).trans hx14 (fun k hk => .inl (hsub k hk))).trans hx5 (fun k hk => .inl (hsub k hk))⟩
                                have hsame := Hat2.out.same HD.out.2.2 (x' := fixP bs.length cr a p) (w1 := w5) (fun k hk h2 => ((hx5.block k (Nat.lt_of_lt_of_le (Nat.lt_of_lt_of_le (Hat2.out.slr.lt k hk) hxq.size) hx14.size) h2).trans (hx14.block k (Nat.lt_of_lt_of_le (Hat2.out.slr.lt k hk) hxq.size) h2)).trans (hxq.block k (Hat2.out.slr.lt k hk) (by simp))) ⟨_, rfl, h5⟩
                                rw [mixI_len] at hsame
                                rw [← Hset.out]
                                exact hsame
                        · have hje : j = x.phis.length := by omega
                          subst hje
                          go_wp2
                          go_roundg (q0 - 1)
                          case measure => have := HK.out; omega
                          case rel =>
                            refine ⟨a + 1, by go_num, by omega, by have := HK.out; simp only [Hid]; omega, ?_, ?_⟩
                            · have h1 := Hs3.out
                              rw [mixI_map] at h1
                              have hxt : ∀ k ∈ St, k ∉ Sp := fun k hk => (HD.out.1 k hk).1
                              have hrow : ∀ k, k < W11.heap.size → k ∉ St → k ∉ Sp → wr.heap[k]? = W11.heap[k]? := fun k hk h2 h3 =>
                                (hx13.block k (Nat.lt_of_lt_of_le hk hx12.size) h3).trans (hx12.block k hk h2)
                              have hnew : BlkCells wr (Sp ++ (Si ++ (Sa ++ St))) (fixB bs.length cr a x) (.slice Ap x.phis.length cp) vi (va) (.slice At x.term.to.length ct) Sp Si Sa St :=
                                ⟨h1, Hr.out.i.move fun k hk => hrow k (Hr.out.i.lt k hk) (fun h => (HD.out.1 k h).2.1 hk) (fun h => (HD.out.2.1 k h).2.1 hk),
                                  Hr.out.a.move fun k hk => hrow k (Hr.out.a.lt k hk) (fun h => (HD.out.1 k h).2.2.1 hk) (fun h => (HD.out.2.1 k h).2.2.1 hk), HT.out.ext hx13 hxt, rfl⟩
                              have hsame := Hat.out.same HInd.out (x' := fixB bs.length cr a x) (w1 := wr) (fun k hk h2 => hrow k (Hat.out.slr.lt k hk) (fun h => h2 (by simp [h])) (fun h => h2 (by simp [h]))) ⟨_, _, _, _, Sp, Si, Sa, St, rfl, hnew⟩
                              rw [mixI_len, HL0.out] at hsame
                              have hset := mixI_set (f := fixB bs.length cr) hal
                              have hx : L0[a] = x := (List.getElem?_eq_some_iff.1 (Hxa.out)).2
                              rw [hx] at hset
                              rw [← hset]
                              exact hsame
                            · exact (Hx11.out.trans hx12 (fun k hk => .inl (HD.out.1 k hk).2.2.2.2)).trans hx13 (fun k hk => .inl (HD.out.2.1 k hk).2.2.2.2)
                · have hae : a = bs.length := by omega
                  subst hae
                  have hbf := Iblk.ext hx11 HbSo.out
                  have hpf := (hPr.ext Iext (by simp)).ext hx11 (fun hk => by
                    have h1 := (HIfr.out _ hk).1
                    have h2 := hPr.lt
                    omega)
                  have u0 := hbf.cell (i := 0) rfl
                  have u1 := hbf.cell (i := 1) rfl
                  have p0 := hpf.cell (i := 0) rfl
                  have p1 := hpf.cell (i := 1) rfl
                  have g0 := hpf.frozen 0
                  have g1 := hpf.frozen 1
                  have hfin := Hsl.out
                  rw [HL.out] at hfin
                  rw [mixI_left] at hfin
                  have Hfin := Lib.hid hfin
                  clear hfin Hsl
                  go_wp2
                  refine bodyPost_ret (v := .tuple #[.agg #[.int .i64 params, .slice Ao qn co], .int .i64 0]) (by simp [results, Try.results10, go_sem, p0, p1]) rfl ?_
                  have e : splitR ⟨params, bs⟩ (runC (funcC ⟨params, bs⟩ idom)) = (splitF ⟨params, bs⟩, 0) := by rw [HR.out, splitR, Htb.out]; rfl
                  have hsz4 := hPr.lt
                  refine ⟨idom, _, So, Hid0.out, by rw [e], ?_, ⟨?_, fun k hk => by have := (HIfr.out k hk).1; omega, HInd.out⟩⟩
                  · rw [e]
                    refine ⟨_, rfl, ?_⟩
                    have hs2 : (splitF ⟨params, bs⟩).blocks = bs.mapIdx (fixB bs.length cr) ++ cr.map fun e => jumpB e.2 := by
                      simp only [splitF, splitBs, Hge.out, Hcr.out]
                    rw [hs2]
                    refine Hfin.out.move fun k hk => ?_
                    have h1 := (HIfr.out k hk).1
                    rw [Below.heap_setCell _ ⟨w.heap.size + 1, 1, none⟩ _ k (by simp; omega), Below.heap_setCell _ ⟨w.heap.size + 1, 0, none⟩ _ k (by simp; omega)]
                  · have e1 : Ext [] w wr := hxw10.trans hx11 (fun k hk => .inr (by have := (HIfr.out k hk).1; omega))
                    exact (e1.setCell (.inr (by simp)) _).setCell (.inr (by simp)) _
end Go.Proofs.Ytkmgbejhbkbaoaa

/- Small things of the laws: a rest; the example; the chapter's case. -/
namespace Go.Proofs.Ytkmgbejhbkbaoaa
set_option linter.unusedSimpArgs false
set_option linter.unusedVariables false
open Go.RowKit

theorem tmod_bounds (x n : Int) (hn : 0 < n) : -n < x.tmod n ∧ x.tmod n < n := by
  have h := Int.tmod_lt_of_pos x hn
  refine ⟨?_, h⟩
  have h2 := Int.lt_tmod_of_pos x hn
  omega
theorem tmod_twice (x n : Int) (hn : 0 < n) : (x.tmod n + n).tmod n = x % n := by
  have h := tmod_bounds x n hn
  rw [Int.tmod_eq_emod_of_nonneg (by omega), Int.add_emod_right]
  have h2 : x.tmod n = x % n ∨ x.tmod n = x % n - n := by
    have := Int.tmod_eq_emod (a := x) (b := n)
    rw [this]
    split
    · left; omega
    · right; omega
  rcases h2 with h2 | h2
  · rw [h2, Int.emod_emod_of_dvd]; exact Int.dvd_refl n
  · rw [h2, Int.sub_emod_right, Int.emod_emod_of_dvd]; exact Int.dvd_refl n
set_option maxRecDepth 20000 in
theorem rest_calls (w : World) (x n : Int) (h0 : 0 < n) (h1 : n ≤ 1048576) : Calls Try.prog 16 #[.int .i64 x, .int .i64 n] w fun e w' => e = .returned (.int .i64 (x % n)) ∧ w = w' := by
  have hb := tmod_bounds x n h0
  have hm := Lib.hid (tmod_twice x n h0)
  obtain ⟨hb1, hb2⟩ := hb
  have hn : ¬ n = 0 := by omega
  go_enter Try.func16, Try.ntmps16
  go_wp2
  go_ret
  exact ⟨by rw [← hm.out, Int.tmod_eq_emod_of_nonneg (a := x.tmod n + n) (by omega)]; rfl, rfl⟩

section
variable {α : Type} {d : Kd α} {e : TypeId} {w : World}
theorem elems_nil : Elems d w [] [] [] := ⟨rfl, fun i x h => by simp at h⟩
theorem elems_cons {S : List Nat} {x : α} {cs : List Value} {Ss : List (List Nat)} {D : List Value} {ys : List α} (h : d.rep w S x cs) (hD : Elems d w Ss D ys) (hl : D.length = ys.length * d.sz) : Elems d w (S :: Ss) (cs ++ D) (x :: ys) := by
  have h1 := elems_single h
  have hc := d.len h
  have := Elems.append (E := cs ++ D) h1 hD (by simp [hc]) (by
    rw [List.length_singleton, Nat.one_mul, List.take_of_length_le (l := cs ++ D) (by rw [List.length_append, hc, hl, Nat.add_mul]; simp), List.take_of_length_le (by omega)]) hl
  simpa using this
theorem slr_lit {g : Nat} {Ss : List (List Nat)} {cs : List Value} {xs : List α} (hb : Blk w g e cs.toArray) (hE : Elems d w Ss cs xs) (hl : cs.length = xs.length * d.sz) (hne : 0 < xs.length) (hn : xs.length ≤ 1073741824) (hg : g ∉ Ss.flatten) :
    SlR d e w (g :: Ss.flatten) (.slice (some ⟨g, 0, none⟩) xs.length xs.length) xs :=
  .inr ⟨g, xs.length, cs.toArray, Ss, rfl, hne, Nat.le_refl _, by simp only [maxLen]; omega, hb, by simpa using hl, hg, rfl, hE⟩
end

set_option maxRecDepth 20000 in
set_option maxHeartbeats 1600000 in
theorem example_calls (w : World) : Calls Try.prog 18 #[] w fun e w' => ∃ v' S', e = .returned v' ∧ FnR w' S' v' exF ∧ New w w' S' := by
  go_enter Try.func18, Try.ntmps18
  go_wp2
  obtain ⟨n, hn⟩ : ∃ n, n = w.heap.size := ⟨_, rfl⟩
  obtain ⟨w1, e1⟩ : ∃ x, x = w.alloc (.cells #[.int .i64 1, .slice (some ⟨w.heap.size + 1 + 1 + 1 + 1 + 1 + 1 + 1, 0, none⟩) 3 3] 26) := ⟨_, rfl⟩
  have z1 : w1.heap.size = n + 1 := by rw [e1]; simp [hn]
  have B0 : Blk w1 (n) 26 #[.int .i64 1, .slice (some ⟨n + 1 + 1 + 1 + 1 + 1 + 1 + 1, 0, none⟩) 3 3] := by
    have h := Blk.new w #[.int .i64 1, .slice (some ⟨w.heap.size + 1 + 1 + 1 + 1 + 1 + 1 + 1, 0, none⟩) 3 3] 26
    rw [← e1] at h
    rw [hn]
    simpa [hn] using h
  have x1 : Ext [] w w1 := by rw [e1]; exact (Ext.refl _ _).alloc _
  obtain ⟨w2, e2⟩ : ∃ x, x = w1.alloc (.cells #[.int .i64 0] 3) := ⟨_, rfl⟩
  have z2 : w2.heap.size = n + 1 + 1 := by rw [e2]; simp [z1]
  have B1 : Blk w2 (n + 1) 3 #[.int .i64 0] := by
    have h := Blk.new w1 #[.int .i64 0] 3
    rw [← e2] at h
    rw [hn]
    simpa [z1, hn] using h
  have x2 : Ext [] w1 w2 := by rw [e2]; exact (Ext.refl _ _).alloc _
  obtain ⟨w3, e3⟩ : ∃ x, x = w2.alloc (.cells #[.int .i64 1, .int .i64 2] 3) := ⟨_, rfl⟩
  have z3 : w3.heap.size = n + 1 + 1 + 1 := by rw [e3]; simp [z2]
  have B2 : Blk w3 (n + 1 + 1) 3 #[.int .i64 1, .int .i64 2] := by
    have h := Blk.new w2 #[.int .i64 1, .int .i64 2] 3
    rw [← e3] at h
    rw [hn]
    simpa [z2, hn] using h
  have x3 : Ext [] w2 w3 := by rw [e3]; exact (Ext.refl _ _).alloc _
  obtain ⟨w4, e4⟩ : ∃ x, x = w3.alloc (.cells #[.int .i64 2] 3) := ⟨_, rfl⟩
  have z4 : w4.heap.size = n + 1 + 1 + 1 + 1 := by rw [e4]; simp [z3]
  have B3 : Blk w4 (n + 1 + 1 + 1) 3 #[.int .i64 2] := by
    have h := Blk.new w3 #[.int .i64 2] 3
    rw [← e4] at h
    rw [hn]
    simpa [z3, hn] using h
  have x4 : Ext [] w3 w4 := by rw [e4]; exact (Ext.refl _ _).alloc _
  obtain ⟨w5, e5⟩ : ∃ x, x = w4.alloc (.cells #[.int .i64 0, .int .i64 0, .int .i64 1, .int .i64 0] 49) := ⟨_, rfl⟩
  have z5 : w5.heap.size = n + 1 + 1 + 1 + 1 + 1 := by rw [e5]; simp [z4]
  have B4 : Blk w5 (n + 1 + 1 + 1 + 1) 49 #[.int .i64 0, .int .i64 0, .int .i64 1, .int .i64 0] := by
    have h := Blk.new w4 #[.int .i64 0, .int .i64 0, .int .i64 1, .int .i64 0] 49
    rw [← e5] at h
    rw [hn]
    simpa [z4, hn] using h
  have x5 : Ext [] w4 w5 := by rw [e5]; exact (Ext.refl _ _).alloc _
  obtain ⟨w6, e6⟩ : ∃ x, x = w5.alloc (.cells #[.int .i64 1, .slice (some ⟨w.heap.size + 1 + 1 + 1 + 1, 0, none⟩) 2 2] 46) := ⟨_, rfl⟩
  have z6 : w6.heap.size = n + 1 + 1 + 1 + 1 + 1 + 1 := by rw [e6]; simp [z5]
  have B5 : Blk w6 (n + 1 + 1 + 1 + 1 + 1) 46 #[.int .i64 1, .slice (some ⟨n + 1 + 1 + 1 + 1, 0, none⟩) 2 2] := by
    have h := Blk.new w5 #[.int .i64 1, .slice (some ⟨w.heap.size + 1 + 1 + 1 + 1, 0, none⟩) 2 2] 46
    rw [← e6] at h
    rw [hn]
    simpa [z5, hn] using h
  have x6 : Ext [] w5 w6 := by rw [e6]; exact (Ext.refl _ _).alloc _
  obtain ⟨w7, e7⟩ : ∃ x, x = w6.alloc (.cells #[.int .i64 1] 3) := ⟨_, rfl⟩
  have z7 : w7.heap.size = n + 1 + 1 + 1 + 1 + 1 + 1 + 1 := by rw [e7]; simp [z6]
  have B6 : Blk w7 (n + 1 + 1 + 1 + 1 + 1 + 1) 3 #[.int .i64 1] := by
    have h := Blk.new w6 #[.int .i64 1] 3
    rw [← e7] at h
    rw [hn]
    simpa [z6, hn] using h
  have x7 : Ext [] w6 w7 := by rw [e7]; exact (Ext.refl _ _).alloc _
  obtain ⟨w8, e8⟩ : ∃ x, x = w7.alloc (.cells #[.slice none 0 0, .slice none 0 0, .int .i64 2, .slice (some ⟨w.heap.size + 1, 0, none⟩) 1 1, .slice (some ⟨w.heap.size + 1 + 1, 0, none⟩) 2 2, .int .i32 0, .slice none 0 0, .slice none 0 0, .int .i64 1, .slice none 0 0, .slice (some ⟨w.heap.size + 1 + 1 + 1, 0, none⟩) 1 1, .int .i32 0, .slice (some ⟨w.heap.size + 1 + 1 + 1 + 1 + 1, 0, none⟩) 1 1, .slice none 0 0, .int .i64 4, .slice (some ⟨w.heap.size + 1 + 1 + 1 + 1 + 1 + 1, 0, none⟩) 1 1, .slice none 0 0, .int .i32 0] 43) := ⟨_, rfl⟩
  have z8 : w8.heap.size = n + 1 + 1 + 1 + 1 + 1 + 1 + 1 + 1 := by rw [e8]; simp [z7]
  have B7 : Blk w8 (n + 1 + 1 + 1 + 1 + 1 + 1 + 1) 43 #[.slice none 0 0, .slice none 0 0, .int .i64 2, .slice (some ⟨n + 1, 0, none⟩) 1 1, .slice (some ⟨n + 1 + 1, 0, none⟩) 2 2, .int .i32 0, .slice none 0 0, .slice none 0 0, .int .i64 1, .slice none 0 0, .slice (some ⟨n + 1 + 1 + 1, 0, none⟩) 1 1, .int .i32 0, .slice (some ⟨n + 1 + 1 + 1 + 1 + 1, 0, none⟩) 1 1, .slice none 0 0, .int .i64 4, .slice (some ⟨n + 1 + 1 + 1 + 1 + 1 + 1, 0, none⟩) 1 1, .slice none 0 0, .int .i32 0] := by
    have h := Blk.new w7 #[.slice none 0 0, .slice none 0 0, .int .i64 2, .slice (some ⟨w.heap.size + 1, 0, none⟩) 1 1, .slice (some ⟨w.heap.size + 1 + 1, 0, none⟩) 2 2, .int .i32 0, .slice none 0 0, .slice none 0 0, .int .i64 1, .slice none 0 0, .slice (some ⟨w.heap.size + 1 + 1 + 1, 0, none⟩) 1 1, .int .i32 0, .slice (some ⟨w.heap.size + 1 + 1 + 1 + 1 + 1, 0, none⟩) 1 1, .slice none 0 0, .int .i64 4, .slice (some ⟨w.heap.size + 1 + 1 + 1 + 1 + 1 + 1, 0, none⟩) 1 1, .slice none 0 0, .int .i32 0] 43
    rw [← e8] at h
    rw [hn]
    simpa [z7, hn] using h
  have x8 : Ext [] w7 w8 := by rw [e8]; exact (Ext.refl _ _).alloc _
  rw [← e1, ← e2, ← e3, ← e4, ← e5, ← e6, ← e7, ← e8]
  clear e1 e2 e3 e4 e5 e6 e7 e8
  have y8 : Ext [] w8 w8 := Ext.refl _ _
  have y7 : Ext [] w7 w8 := x8.nil y8
  have y6 : Ext [] w6 w8 := x7.nil y7
  have y5 : Ext [] w5 w8 := x6.nil y6
  have y4 : Ext [] w4 w8 := x5.nil y5
  have y3 : Ext [] w3 w8 := x4.nil y4
  have y2 : Ext [] w2 w8 := x3.nil y3
  have y1 : Ext [] w1 w8 := x2.nil y2
  have hx : Ext [] w w8 := x1.nil y1
  have b0 := B0.ext y1 (by simp)
  have b1 := B1.ext y2 (by simp)
  have b2 := B2.ext y3 (by simp)
  have b3 := B3.ext y4 (by simp)
  have b4 := B4.ext y5 (by simp)
  have b5 := B5.ext y6 (by simp)
  have b6 := B6.ext y7 (by simp)
  have b7 := B7.ext y8 (by simp)
  obtain ⟨W, hW⟩ : ∃ W, W = w8 := ⟨_, rfl⟩
  subst hW
  have hI : ∀ (g : Nat) (l : List Int), 0 < l.length → l.length ≤ 10 → Blk W g 3 (l.map (Value.int .i64)).toArray → SlR kInt 3 W [g] (.slice (some ⟨g, 0, none⟩) l.length l.length) l := fun g l h1 h2 hb =>
    slr_sc.2 (.inr ⟨g, l.length, _, rfl, h1, Nat.le_refl _, by simp only [maxLen]; omega, hb, by simp, rfl, by rw [List.take_of_length_le (by simp)]⟩)
  have s1 := hI (n + 1) [0] (by simp) (by simp) b1
  have s2 := hI (n + 1 + 1) [1, 2] (by simp) (by simp) b2
  have s3 := hI (n + 1 + 1 + 1) [2] (by simp) (by simp) b3
  have s6 := hI (n + 1 + 1 + 1 + 1 + 1 + 1) [1] (by simp) (by simp) b6
  have s4 : SlR kIn 49 W [n + 1 + 1 + 1 + 1] (.slice (some ⟨n + 1 + 1 + 1 + 1, 0, none⟩) 2 2) [⟨0, 0⟩, ⟨1, 0⟩] := by
    have := slr_lit (d := kIn) (Ss := [[], []]) (xs := [⟨0, 0⟩, ⟨1, 0⟩]) b4 (elems_cons (d := kIn) (cs := [.int .i64 0, .int .i64 0]) ⟨rfl, rfl⟩ (elems_cons (d := kIn) (cs := [.int .i64 1, .int .i64 0]) ⟨rfl, rfl⟩ elems_nil rfl) rfl) rfl (by simp) (by simp) (by simp)
    simpa using this
  have s5 : SlR kPhi 46 W [n + 1 + 1 + 1 + 1 + 1, n + 1 + 1 + 1 + 1] (.slice (some ⟨n + 1 + 1 + 1 + 1 + 1, 0, none⟩) 1 1) [⟨1, [⟨0, 0⟩, ⟨1, 0⟩]⟩] := by
    have := slr_lit (d := kPhi) (Ss := [[n + 1 + 1 + 1 + 1]]) (xs := [⟨1, [⟨0, 0⟩, ⟨1, 0⟩]⟩]) b5 (elems_cons (d := kPhi) (cs := [.int .i64 1, .slice (some ⟨n + 1 + 1 + 1 + 1, 0, none⟩) 2 2]) ⟨_, rfl, s4⟩ elems_nil rfl) rfl (by simp) (by simp) (by simp)
    simpa using this
  have r0 : kBlock.rep W ([] ++ ([] ++ ([n + 1] ++ [n + 1 + 1]))) ⟨[], [], ⟨2, [0], [1, 2], 0⟩⟩ [.slice none 0 0, .slice none 0 0, .int .i64 2, .slice (some ⟨n + 1, 0, none⟩) 1 1, .slice (some ⟨n + 1 + 1, 0, none⟩) 2 2, .int .i32 0] :=
    ⟨_, _, _, _, [], [], _, _, rfl, ⟨SlR.nil _ _ _, SlR.nil _ _ _, s1, s2, rfl⟩⟩
  have r1 : kBlock.rep W ([] ++ ([] ++ ([] ++ [n + 1 + 1 + 1]))) ⟨[], [], ⟨1, [], [2], 0⟩⟩ [.slice none 0 0, .slice none 0 0, .int .i64 1, .slice none 0 0, .slice (some ⟨n + 1 + 1 + 1, 0, none⟩) 1 1, .int .i32 0] :=
    ⟨_, _, _, _, [], [], [], _, rfl, ⟨SlR.nil _ _ _, SlR.nil _ _ _, SlR.nil _ _ _, s3, rfl⟩⟩
  have r2 : kBlock.rep W ([n + 1 + 1 + 1 + 1 + 1, n + 1 + 1 + 1 + 1] ++ ([] ++ ([n + 1 + 1 + 1 + 1 + 1 + 1] ++ []))) ⟨[⟨1, [⟨0, 0⟩, ⟨1, 0⟩]⟩], [], ⟨4, [1], [], 0⟩⟩ [.slice (some ⟨n + 1 + 1 + 1 + 1 + 1, 0, none⟩) 1 1, .slice none 0 0, .int .i64 4, .slice (some ⟨n + 1 + 1 + 1 + 1 + 1 + 1, 0, none⟩) 1 1, .slice none 0 0, .int .i32 0] :=
    ⟨_, _, _, _, _, [], _, [], rfl, ⟨s5, SlR.nil _ _ _, s6, SlR.nil _ _ _, rfl⟩⟩
  have s7 := slr_lit b7 (elems_cons r0 (elems_cons r1 (elems_cons r2 elems_nil rfl) rfl) rfl) rfl (by simp) (by simp) (by simp; omega)
  refine bodyPost_ret (v := .agg #[.int .i64 1, .slice (some ⟨n + 1 + 1 + 1 + 1 + 1 + 1 + 1, 0, none⟩) 3 3]) ?_ rfl ?_
  · have c0 := b0.cell (i := 0) rfl
    have c1 := b0.cell (i := 1) rfl
    rw [hn] at c0 c1 ⊢
    simp [results, Try.results18, go_sem, c0, c1]
  · refine ⟨_, _, rfl, ⟨_, rfl, s7⟩, ⟨hx, fun k hk => ?_, ?_⟩⟩
    · simp at hk; omega
    · simp; omega

theorem lt_of_cell {w : World} {p : Addr} {v : Value} (h : w.cell? p = some v) : p.block < w.heap.size := by
  rcases Nat.lt_or_ge p.block w.heap.size with h1 | h1
  · exact h1
  · simp [World.cell?, Array.getElem?_eq_none h1] at h
theorem ex_many : tooMany exF = false := by unfold tooMany; rw [ex_crit]; decide
set_option maxRecDepth 20000 in
set_option maxHeartbeats 1600000 in
theorem awake_calls (w : World) : Calls Try.prog 7 #[] w fun e w' => e = .returned (.bool true) ∧ Ext [] w w' := by
  go_enter Try.func7, Try.ntmps7
  go_wp2_with fail
  refine (example_calls w).mono ?_
  rintro e w1 ⟨v1, S1, rfl, h1, hnew1⟩
  have h1' := h1
  obtain ⟨vb1, rfl, _⟩ := h1
  go_wp2_with fail
  refine (splitFunc_calls h1' (by decide) (by decide)).mono ?_
  rintro e w2 ⟨idom, v2, S2, hid, rfl, hf, hnew2⟩
  rw [right_func ex_right hid] at hf ⊢
  simp only [splitR, ex_many, Bool.false_eq_true, if_false, ex_split] at hf ⊢
  obtain ⟨vb, rfl, hb⟩ := hf
  simp only at hb
  have Hb := Lib.hid hb
  have hb3 := Hb.out
  obtain ⟨g, cap, Ap, cp, Ai, ci, Aa, ca, At, ct, Sb, Sp, Si, Sa, St, hv, hg, hsub, hr0, a0, a1, a2, a3, a4, a5⟩ := FnR.block hb3 0 (by decide)
  simp only [List.length_cons, List.length_nil, Nat.zero_add, Nat.reduceAdd] at hv
  subst hv
  obtain ⟨g', cap', Ap2, cp2, Ai2, ci2, Aa2, ca2, At2, ct2, Sb2, Sp2, Si2, Sa2, St2, hv, _, _, hr2, c0, c1, c2, c3, c4, c5⟩ := FnR.block hb3 2 (by decide)
  cases hv
  obtain ⟨g', cap', Ap3, cp3, Ai3, ci3, Aa3, ca3, At3, ct3, Sb3, Sp3, Si3, Sa3, St3, hv, _, _, hr3, d0, d1, d2, d3, d4, d5⟩ := FnR.block hb3 3 (by decide)
  cases hv
  simp only [List.getElem_cons_zero, List.getElem_cons_succ, List.length_cons, List.length_nil, Nat.reduceMul, Nat.reduceAdd, Nat.zero_mul, Nat.zero_add] at a0 a1 a2 a3 a4 a5 c0 c1 c2 c3 c4 c5 d0 d1 d2 d3 d4 d5 hr0 hr2 hr3
  obtain ⟨gt, capt, hv, _, t1, _⟩ := hr0.t.cell 1 (by decide)
  cases hv
  obtain ⟨gp, Sj, cs, hv, _, _, ⟨vj, rfl, hvj⟩, hcj⟩ := hr2.p.cells 0 (by decide)
  cases hv
  have p0 := hcj 0 _ rfl
  have p1 := hcj 1 _ rfl
  simp only [List.getElem_cons_zero] at hvj p0 p1
  obtain ⟨Aj, cj, rfl, _⟩ := hvj.shape
  obtain ⟨gi, _, cs, hv, _, _, ⟨_, rfl⟩, hq⟩ := hvj.cells 0 (by decide)
  cases hv
  have q0 := hq 0 _ rfl
  obtain ⟨gi', _, cs, hv, _, _, ⟨_, rfl⟩, hq'⟩ := hvj.cells 1 (by decide)
  cases hv
  have q1 := hq' 0 _ rfl
  simp only [kIn, kPhi, List.getElem_cons_zero, List.getElem_cons_succ, List.length_cons, List.length_nil, Nat.reduceMul, Nat.reduceAdd, Nat.zero_mul, Nat.zero_add] at t1 p0 p1 q0 q1
  have l0 := lt_of_cell a0
  have l1 := lt_of_cell t1
  have l2 := lt_of_cell p0
  have l3 := lt_of_cell q0
  simp only at l0 l1 l2 l3
  clear hcj hq hq' hid
  go_wp2
  go_ret
  exact ⟨rfl, (hnew1.ext.nil hnew2.ext).alloc _⟩
end Go.Proofs.Ytkmgbejhbkbaoaa

/- The maker of functions: how it lies in memory. -/
namespace Go.Proofs.Ytkmgbejhbkbaoaa
set_option linter.unusedSimpArgs false
set_option linter.unusedVariables false
open Go.RowKit

/-- a block, and the slice that names where it goes -/
def kBV : Kd (JBlock × Value) := {
  sz := 6
  rep := fun w S x cs => ∃ vp vi va Sp Si Sa St, cs = [vp, vi, .int .i64 x.1.term.kind, va, x.2, .int .i32 x.1.term.imm] ∧ BlkCells w S x.1 vp vi va x.2 Sp Si Sa St
  len := by rintro _ _ _ _ ⟨_, _, _, _, _, _, _, rfl, _⟩; rfl
  one := by
    rintro _ _ x _ ⟨_, _, _, _, _, _, _, rfl, h⟩ u hu
    simp only [List.mem_cons, List.not_mem_nil, or_false] at hu
    rcases hu with rfl | rfl | rfl | rfl | rfl | rfl
    · exact slice_one h.p
    · exact slice_one h.i
    · rfl
    · exact slice_one h.a
    · exact slice_one h.t
    · rfl
  lt := by rintro _ _ _ _ ⟨_, _, _, _, _, _, _, _, h⟩; exact h.lt
  move := by rintro _ _ _ _ _ ⟨vp, vi, va, Sp, Si, Sa, St, rfl, h⟩ hm; exact ⟨vp, vi, va, Sp, Si, Sa, St, rfl, h.move hm⟩ }
/-- a kind seen as another one -/
theorem slr_map {α β : Type} {d : Kd α} {d' : Kd β} {f : α → β} (hsz : d.sz = d'.sz) (hrep : ∀ w S x cs, d.rep w S x cs → d'.rep w S (f x) cs) {e : TypeId} {w : World} {S : List Nat} {v : Value} {xs : List α} (h : SlR d e w S v xs) : SlR d' e w S v (xs.map f) := by
  rcases h with ⟨A, rfl, rfl, rfl⟩ | ⟨g, cap, C, Ss, rfl, h0, h1, h2, hb, hC, hn, rfl, hE⟩
  · exact .inl ⟨A, rfl, rfl, rfl⟩
  · refine .inr ⟨g, cap, C, Ss, by rw [List.length_map], h0, by rw [List.length_map]; exact h1, h2, hb, by rw [hC, hsz], hn, rfl, ?_⟩
    refine ⟨by rw [hE.1, List.length_map], fun i y hy => ?_⟩
    rw [List.getElem?_map] at hy
    obtain ⟨x, hx, rfl⟩ := Option.map_eq_some_iff.1 hy
    obtain ⟨Si, hSi, hr⟩ := hE.2 i x hx
    exact ⟨Si, hSi, by rw [← hsz]; exact hrep _ _ _ _ hr⟩
theorem slr_forget {e : TypeId} {w : World} {S : List Nat} {v : Value} {tb : List (JBlock × Value)} (h : SlR kBV e w S v tb) : SlR kBlock e w S v (tb.map (·.1)) :=
  by
  refine slr_map (d := kBV) (d' := kBlock) (f := fun x : JBlock × Value => x.1) rfl ?_ h
  rintro w S x cs ⟨vp, vi, va, Sp, Si, Sa, St, hc, h⟩
  exact ⟨vp, vi, va, x.2, Sp, Si, Sa, St, hc, h⟩

/-- numbers that came in: they are read alone -/
def RdS (w : World) (F : List Nat) (vs : Value) : Prop :=
  ∃ A n c, vs = .slice A n c ∧ n ≤ 400 ∧ ∀ i, i < n → ∃ g o x, A = some ⟨g, o, none⟩ ∧ g ∉ F ∧ w.cell? ⟨g, o + i, none⟩ = some (.int .i64 x)
theorem RdS.step {w w' : World} {F F' : List Nat} {vs : Value} (h : RdS w F vs) (hx : FpStep F w w' F') : RdS w' F' vs := by
  obtain ⟨A, n, c, rfl, hn, h⟩ := h
  refine ⟨A, n, c, rfl, hn, fun i hi => ?_⟩
  obtain ⟨g, o, x, rfl, hg, hc⟩ := h i hi
  have hlt := lt_of_cell hc
  refine ⟨g, o, x, rfl, fun hk => ?_, hx.1.cell hc hg⟩
  rcases hx.2 g hk with h1 | h1
  · exact hg h1
  · simp at hlt; omega

/-- the maker at block q: F are its blocks of memory -/
structure MkR (w : World) (q : Nat) (vs : Value) (F : List Nat) (a : Nat) (st : MSt) (vts : List Value) (vb vl : Value) (Sb Sl : List Nat) : Prop where
  blk : Blk w q 58 #[vs, .int .i64 (a : Int), .int .i64 st.params, vb, .int .i64 st.next, vl]
  bs : SlR kBV 43 w Sb vb (st.blocks.zip vts)
  vlen : vts.length = st.blocks.length
  lv : SlR kInt 3 w Sl vl st.live
  fp : F = q :: (Sb ++ Sl)
  nd : F.Nodup
  rd : RdS w F vs
def MkE (w : World) (q : Nat) (vs : Value) (F : List Nat) (a : Nat) (st : MSt) (vts : List Value) : Prop := ∃ vb vl Sb Sl, MkR w q vs F a st vts vb vl Sb Sl
/-- small enough -/
def Sm (K : Nat) (a : Nat) (st : MSt) : Prop := a ≤ K ∧ (0 ≤ st.next ∧ st.next ≤ K) ∧ st.live.length ≤ K ∧ ∀ x ∈ st.blocks, x.ins.length ≤ K
theorem Sm.mono {K K' a : Nat} {st : MSt} (h : Sm K a st) (hk : K ≤ K') : Sm K' a st := ⟨by have := h.1; omega, by have := h.2.1; omega, by have := h.2.2.1; omega, fun x hx => by have := h.2.2.2 x hx; omega⟩
theorem Sm.at' {K K' a a' : Nat} {st : MSt} (h : Sm K a st) (ha : a' ≤ K') (hk : K ≤ K') : Sm K' a' st := ⟨ha, by have := h.2.1; omega, by have := h.2.2.1; omega, fun x hx => by have := h.2.2.2 x hx; omega⟩
theorem MkR.ext0 {w w' : World} {q : Nat} {vs : Value} {F : List Nat} {a : Nat} {st : MSt} {vts : List Value} {vb vl : Value} {Sb Sl : List Nat} (h : MkR w q vs F a st vts vb vl Sb Sl) (hx : Ext [] w w') : MkR w' q vs F a st vts vb vl Sb Sl :=
  ⟨h.blk.ext hx (by simp), h.bs.ext0 hx, h.vlen, h.lv.ext0 hx, h.fp, h.nd, h.rd.step ⟨hx.mono (by simp), fun k hk => .inl hk⟩⟩
theorem MkE.ext0 {w w' : World} {q : Nat} {vs : Value} {F : List Nat} {a : Nat} {st : MSt} {vts : List Value} (h : MkE w q vs F a st vts) (hx : Ext [] w w') : MkE w' q vs F a st vts := by
  obtain ⟨vb, vl, Sb, Sl, h⟩ := h; exact ⟨vb, vl, Sb, Sl, h.ext0 hx⟩
/-- one of its numbers is stored -/
theorem MkR.num {w : World} {q : Nat} {vs : Value} {F : List Nat} {a : Nat} {st : MSt} {vts : List Value} {vb vl : Value} {Sb Sl : List Nat} (h : MkR w q vs F a st vts vb vl Sb Sl) (i : Nat) (u : Value) {a' : Nat} {st' : MSt} (hb : st'.blocks = st.blocks) (hl : st'.live = st.live)
    (hc : #[vs, Value.int .i64 (a : Int), .int .i64 st.params, vb, .int .i64 st.next, vl].setIfInBounds i u = #[vs, .int .i64 (a' : Int), .int .i64 st'.params, vb, .int .i64 st'.next, vl]) :
    MkR (w.setCell ⟨q, i, none⟩ u) q vs F a' st' vts vb vl Sb Sl ∧ Ext F w (w.setCell ⟨q, i, none⟩ u) := by
  have hx : Ext F w (w.setCell ⟨q, i, none⟩ u) := (Ext.refl _ _).setCell (.inl (by rw [h.fp]; simp)) _
  have hnd := h.nd
  rw [h.fp] at hnd
  have hq := (List.nodup_cons.1 hnd).1
  have hmv : ∀ k, k ≠ q → (w.setCell ⟨q, i, none⟩ u).heap[k]? = w.heap[k]? := fun k hk => Below.heap_setCell w ⟨q, i, none⟩ u k hk
  refine ⟨⟨?_, ?_, by rw [hb]; exact h.vlen, ?_, h.fp, h.nd, h.rd.step ⟨hx, fun k hk => .inl hk⟩⟩, hx⟩
  · rw [← hc]; exact h.blk.set i u
  · rw [hb]; exact h.bs.move fun k hk => hmv k (fun e => hq (by rw [← e]; simp [hk]))
  · rw [hl]; exact h.lv.move fun k hk => hmv k (fun e => hq (by rw [← e]; simp [hk]))

/-! ### a number taken -/
def TakeP (w : World) (q : Nat) (vs : Value) (F : List Nat) (a : Nat) (st : MSt) (vts : List Value) (n : Int) (e : Ending) (w' : World) : Prop :=
  ∃ r : Nat, (r : Int) < n ∧ e = .returned (.int .i64 (r : Int)) ∧ MkE w' q vs F (a + 1) st vts ∧ Ext F w w'
theorem take_end {w : World} {q : Nat} {vs : Value} {F : List Nat} {a : Nat} {st : MSt} {vts : List Value} {vb vl : Value} {Sb Sl : List Nat} (h : MkR w q vs F a st vts vb vl Sb Sl) (N : Nat) :
    MkE ((w.drewN N).setCell ⟨q, 1, none⟩ (.int .i64 ((a : Int) + 1))) q vs F (a + 1) st vts ∧ Ext F w ((w.drewN N).setCell ⟨q, 1, none⟩ (.int .i64 ((a : Int) + 1))) := by
  have hxw : Ext [] w (w.drewN N) := (Ext.refl _ _).drewN _
  obtain ⟨hM, hx2⟩ := (h.ext0 hxw).num 1 (.int .i64 ((a : Int) + 1)) (a' := a + 1) (st' := st) rfl rfl (by simp)
  exact ⟨⟨_, _, _, _, hM⟩, (hxw.mono (by simp)).same hx2⟩
set_option maxRecDepth 20000 in
set_option maxHeartbeats 800000 in
theorem take_calls {w : World} {q : Nat} {vs : Value} {F : List Nat} {a : Nat} {st : MSt} {vts : List Value} (h : MkE w q vs F a st vts) (ha : a ≤ 1000000) (n : Int) (h0 : 0 < n) (h1 : n ≤ 1048576) :
    Calls Try.prog 19 #[.pointer (some ⟨q, 0, none⟩), .int .i64 n] w (TakeP w q vs F a st vts n) := by
  obtain ⟨vb, vl, Sb, Sl, H⟩ := h
  obtain ⟨A, m, c, rfl, hm, hrd⟩ := H.rd
  have c0 := H.blk.cell (i := 0) rfl
  have c1 := H.blk.cell (i := 1) rfl
  have hfz := H.blk.frozen 1
  have hn : ¬ n = 0 := by omega
  by_cases hlt : a < m
  · obtain ⟨g, o, x, rfl, hg, hx⟩ := hrd a hlt
    obtain ⟨hb1, hb2⟩ := tmod_bounds x n h0
    have ht := Lib.hid (tmod_twice x n h0)
    have HR := Lib.hid H
    clear hrd H
    go_enter Try.func19, Try.ntmps19
    go_wp2
    go_quiet (fail)
    go_wp2
    go_quiet (fail)
    go_wp2
    go_ret
    refine ⟨((x.tmod n + n) % n).toNat, ?_, ?_, (take_end HR.out _).1, (take_end HR.out _).2⟩
    · have := Int.emod_lt_of_pos (x.tmod n + n) h0
      have := Int.emod_nonneg (x.tmod n + n) hn
      omega
    · have := Int.emod_nonneg (x.tmod n + n) hn
      rw [Int.toNat_of_nonneg this]; rfl
  · have HR := Lib.hid H
    have hlt2 : m ≤ a := by omega
    clear hrd H
    go_enter Try.func19, Try.ntmps19
    go_wp2
    go_quiet (fail)
    go_wp2
    go_ret
    exact ⟨0, by omega, rfl, (take_end HR.out _).1, (take_end HR.out _).2⟩
end Go.Proofs.Ytkmgbejhbkbaoaa

/- The maker of functions: new numbers, words, values at hand. -/
namespace Go.Proofs.Ytkmgbejhbkbaoaa
set_option linter.unusedSimpArgs false
set_option linter.unusedVariables false
open Go.RowKit

def MSt.fresh (st : MSt) : MSt := { st with next := st.next + 1 }
def FreshP (w : World) (q : Nat) (vs : Value) (F : List Nat) (a : Nat) (st : MSt) (vts : List Value) (e : Ending) (w' : World) : Prop :=
  e = .returned (.int .i64 st.next) ∧ MkE w' q vs F a st.fresh vts ∧ Ext F w w'
set_option maxRecDepth 20000 in
theorem fresh_calls {w : World} {q : Nat} {vs : Value} {F : List Nat} {a : Nat} {st : MSt} {vts : List Value} (h : MkE w q vs F a st vts) (h0 : 0 ≤ st.next) (h1 : st.next ≤ 1000000) :
    Calls Try.prog 22 #[.pointer (some ⟨q, 0, none⟩)] w (FreshP w q vs F a st vts) := by
  obtain ⟨vb, vl, Sb, Sl, H⟩ := h
  have c4 := H.blk.cell (i := 4) rfl
  have hfz := H.blk.frozen 4
  have HR := Lib.hid H
  clear H
  go_enter Try.func22, Try.ntmps22
  go_wp2
  go_ret
  obtain ⟨hM, hx⟩ := HR.out.num 4 (.int .i64 (st.next + 1)) (a' := a) (st' := st.fresh) rfl rfl (by simp [MSt.fresh])
  exact ⟨rfl, ⟨_, _, _, _, hM⟩, hx⟩

def WordP (w : World) (q : Nat) (vs : Value) (F : List Nat) (a : Nat) (st : MSt) (vts : List Value) (e : Ending) (w' : World) : Prop :=
  ∃ r, e = .returned (.int .i32 r) ∧ MkE w' q vs F (a + 2) st vts ∧ Ext F w w'
set_option maxRecDepth 20000 in
set_option maxHeartbeats 800000 in
theorem word_calls {w : World} {q : Nat} {vs : Value} {F : List Nat} {a : Nat} {st : MSt} {vts : List Value} (h : MkE w q vs F a st vts) (ha : a ≤ 999999) :
    Calls Try.prog 29 #[.pointer (some ⟨q, 0, none⟩)] w (WordP w q vs F a st vts) := by
  go_enter Try.func29, Try.ntmps29
  go_wp2_with fail
  refine (take_calls h (by omega) 1048576 (by omega) (by omega)).mono ?_
  rintro e w1 ⟨x, hx, rfl, h1, hx1⟩
  go_wp2_with fail
  refine (take_calls h1 (by omega) 8 (by omega) (by omega)).mono ?_
  rintro e w2 ⟨k, hk, rfl, h2, hx2⟩
  have HX := Lib.hid (hx1.same hx2)
  have H2 := Lib.hid h2
  clear hx1 hx2 h1 h2
  have hsp : k = 0 ∨ k = 1 ∨ k = 2 ∨ k = 3 ∨ 4 ≤ k := by omega
  rcases hsp with rfl | rfl | rfl | rfl | hk4
  · go_wp2
    go_ret
    exact ⟨_, rfl, H2.out, HX.out⟩
  · go_wp2
    go_ret
    exact ⟨_, rfl, H2.out, HX.out⟩
  · go_wp2
    go_ret
    exact ⟨_, rfl, H2.out, HX.out⟩
  · go_wp2
    go_ret
    exact ⟨_, rfl, H2.out, HX.out⟩
  · have e0 : ((k : Int) == 0) = false := by simp; omega
    have e1 : ((k : Int) == 1) = false := by simp; omega
    have e2 : ((k : Int) == 2) = false := by simp; omega
    have e3 : ((k : Int) == 3) = false := by simp; omega
    have n0 : ¬ k = 0 := by omega
    have n1 : ¬ (k : Int) = 1 := by omega
    have n2 : ¬ (k : Int) = 2 := by omega
    have n3 : ¬ (k : Int) = 3 := by omega
    go_wp2
    go_ret
    exact ⟨_, rfl, H2.out, HX.out⟩

def ValueP (w : World) (q : Nat) (vs : Value) (F : List Nat) (a : Nat) (st : MSt) (vts : List Value) (e : Ending) (w' : World) : Prop :=
  (st.live = [] ∧ e = .returned (.tuple #[.int .i64 0, .bool false]) ∧ w' = w) ∨ (∃ r, r ∈ st.live ∧ e = .returned (.tuple #[.int .i64 r, .bool true]) ∧ MkE w' q vs F (a + 2) st vts ∧ Ext F w w')
set_option maxRecDepth 20000 in
set_option maxHeartbeats 800000 in
theorem value_calls {w : World} {q : Nat} {vs : Value} {F : List Nat} {a : Nat} {st : MSt} {vts : List Value} (h : MkE w q vs F a st vts) (ha : a ≤ 999999) (hl : st.live.length ≤ 1000000) :
    Calls Try.prog 68 #[.pointer (some ⟨q, 0, none⟩)] w (ValueP w q vs F a st vts) := by
  obtain ⟨vb, vl, Sb, Sl, H⟩ := h
  obtain ⟨A, c, rfl, _⟩ := H.lv.shape
  have c5 := H.blk.cell (i := 5) rfl
  by_cases h0 : st.live = []
  · have hl0 : st.live.length = 0 := by rw [h0]; rfl
    rw [hl0] at c5
    have H0 := Lib.hid h0
    clear h0 hl0 H
    go_enter Try.func68, Try.ntmps68
    go_wp2
    go_ret2
    exact .inl ⟨H0.out, rfl, rfl⟩
  · have hp : 0 < st.live.length := List.length_pos_iff.2 h0
    have hn0 : ((st.live.length : Int) == 0) = false := by simp; omega
    have hn1 : ¬ st.live.length = 0 := by omega
    have HE := Lib.hid (show MkE w q vs F a st vts from ⟨_, _, _, _, H⟩)
    clear h0 H
    go_enter Try.func68, Try.ntmps68
    go_wp2_with fail
    refine (take_calls HE.out (by omega) (st.live.length : Int) (by omega) (by omega)).mono ?_
    rintro e w1 ⟨r, hr, rfl, h1, hx1⟩
    go_wp2_with fail
    refine (take_calls h1 (by omega) 3 (by omega) (by omega)).mono ?_
    rintro e w2 ⟨k, hk, rfl, ⟨vb2, vl2, Sb2, Sl2, H2⟩, hx2⟩
    have HX := Lib.hid (hx1.same hx2)
    obtain ⟨A2, cc2, rfl, _⟩ := H2.lv.shape
    have d5 := H2.blk.cell (i := 5) rfl
    have hr' : r < st.live.length := by omega
    obtain ⟨g, cap, hv, _, e1, _⟩ := H2.lv.cell r hr'
    cases hv
    have hm1 : st.live[r] ∈ st.live := List.getElem_mem hr'
    by_cases hk0 : k = 0
    · subst hk0
      obtain ⟨m, hm⟩ : ∃ m : Nat, (st.live.length : Int) - 1 = (m : Int) := ⟨st.live.length - 1, by omega⟩
      have hml : m < st.live.length := by omega
      obtain ⟨g', cap', hv, _, e2, _⟩ := H2.lv.cell m hml
      cases hv
      have hm2 : st.live[m] ∈ st.live := List.getElem_mem hml
      have H2E := Lib.hid (show MkE w2 q vs F (a + 2) st vts from ⟨_, _, _, _, H2⟩)
      generalize st.live[m] = y at *
      have HM := Lib.hid hm2
      clear H2 h1 hx1 hx2 hm1 hm2 e1
      go_wp2
      go_ret2
      exact .inr ⟨y, HM.out, rfl, H2E.out, HX.out⟩
    · have ek : ((k : Int) == 0) = false := by simp; omega
      have H2E := Lib.hid (show MkE w2 q vs F (a + 2) st vts from ⟨_, _, _, _, H2⟩)
      generalize st.live[r] = y at *
      have HM := Lib.hid hm1
      clear H2 h1 hx1 hx2 hm1
      go_wp2
      go_ret2
      exact .inr ⟨y, HM.out, rfl, H2E.out, HX.out⟩
end Go.Proofs.Ytkmgbejhbkbaoaa

/- An element whose blocks of memory become others, wherever these come from. -/
namespace Go.Proofs.Ytkmgbejhbkbaoaa
set_option linter.unusedSimpArgs false
set_option linter.unusedVariables false
open Go.RowKit
section
variable {α : Type} {d : Kd α} {e : TypeId} {w w1 : World} {S Si : List Nat} {xs : List α} {g cap i : Nat} {cs : List Value}
theorem SlAt.putG (h : SlAt d e w S g cap xs i Si cs) (hn : S.Nodup) {x' : α} {Sx : List Nat} (hx : ∀ k, k ∈ S → k ∉ Si → w1.heap[k]? = w.heap[k]?) (j : Nat) (hj : j < d.sz) (u : Value)
    (hr : d.rep (w1.setCell ⟨g, i * d.sz + j, none⟩ u) Sx x' (cs.set j u)) (hS : ∀ k ∈ Sx, k ∈ Si ∨ k ∉ S) :
    ∃ S', SlR d e (w1.setCell ⟨g, i * d.sz + j, none⟩ u) S' (.slice (some ⟨g, 0, none⟩) xs.length cap) (xs.set i x') ∧ (∀ k ∈ S', k ∈ S ∨ k ∈ Sx) ∧ (Sx.Nodup → S'.Nodup) := by
  have hni := h.notin
  obtain ⟨⟨C, Ss, h0, h1, h2, hb0, hC, hgn, rfl, hE, hSi, rfl⟩, hi, hrep⟩ := h
  have hnf : Ss.flatten.Nodup := (List.nodup_cons.1 hn).2
  have hlen : (i + 1) * d.sz ≤ C.toList.length := by
    have : C.toList.length = cap * d.sz := by rw [Array.length_toList, hC]
    rw [this]; exact Nat.mul_le_mul_right _ (by omega)
  obtain ⟨h3, h4⟩ := cut_set hj hlen u
  have hgSx : g ∉ Sx := fun hk => by
    rcases hS g hk with h5 | h5
    · exact hni h5
    · exact h5 (by simp)
  have hgS : g ∉ (Ss.set i Sx).flatten := fun hk => by
    rcases mem_flatten_set hk with h5 | ⟨j', B, _, hB, h5⟩
    · exact hgSx h5
    · exact hgn (List.mem_flatten.2 ⟨B, List.mem_of_getElem? hB, h5⟩)
  have hb1 : Blk w1 g e C := hb0.move (hx g (by simp) hni)
  refine ⟨g :: (Ss.set i Sx).flatten, .inr ⟨g, cap, _, Ss.set i Sx, by rw [List.length_set], h0, by rw [List.length_set]; exact h1, h2, hb1.set _ u, by simpa using hC, hgS, rfl, ?_⟩, ?_, ?_⟩
  · refine ⟨by rw [List.length_set, List.length_set, hE.1], fun k x hk => ?_⟩
    rw [Array.toList_setIfInBounds]
    by_cases hij : i = k
    · subst hij
      rw [List.getElem?_set_self hi] at hk
      injection hk with hk
      subst hk
      exact ⟨Sx, List.getElem?_set_self (by rw [hE.1]; exact hi), by rw [h3]; exact hr⟩
    · rw [List.getElem?_set_ne hij] at hk
      obtain ⟨Sj, hSj, hrj⟩ := hE.2 k x hk
      refine ⟨Sj, by rw [List.getElem?_set_ne hij]; exact hSj, ?_⟩
      rw [h4 k (fun e => hij e.symm)]
      have hin : ∀ q ∈ Sj, q ∈ Ss.flatten := fun q hq => List.mem_flatten.2 ⟨Sj, List.mem_of_getElem? hSj, hq⟩
      refine d.move hrj fun q hq => ?_
      rw [Below.heap_setCell w1 _ u q (by rintro rfl; exact hgn (hin _ hq))]
      exact hx q (List.mem_cons_of_mem _ (hin q hq)) (flatten_disj hnf hSj hSi (fun e => hij e.symm) q hq)
  · intro k hk
    rcases List.mem_cons.1 hk with rfl | hk
    · exact .inl (by simp)
    · rcases mem_flatten_set hk with h5 | ⟨j', B, _, hB, h5⟩
      · exact .inr h5
      · exact .inl (List.mem_cons_of_mem _ (List.mem_flatten.2 ⟨B, List.mem_of_getElem? hB, h5⟩))
  · intro hSx
    refine List.nodup_cons.2 ⟨hgS, nodup_flatten_set hnf hSi hSx fun k hk => ?_⟩
    rcases hS k hk with h5 | h5
    · exact .inl h5
    · exact .inr fun h6 => h5 (List.mem_cons_of_mem _ h6)
end
end Go.Proofs.Ytkmgbejhbkbaoaa

/- The maker of functions: an instruction at the end of a block. -/
namespace Go.Proofs.Ytkmgbejhbkbaoaa
set_option linter.unusedSimpArgs false
set_option linter.unusedVariables false
open Go.RowKit

set_option maxRecDepth 20000 in
theorem makes3_calls {w : World} {S : List Nat} {cs : List Value} {x : JIns} (h : kIns.rep w S x cs) : Calls Try.prog 24 #[.agg cs.toArray] w fun e w' => ∃ v' S', e = .returned v' ∧ SlR kInt 3 w' S' v' (makesF x) ∧ New w w' S' := by
  obtain ⟨v, rfl, h⟩ := h
  by_cases h1 : x.op = 16
  · have e1 : (x.op == 16) = true := by simpa using h1
    have hf : Hid (makesF x = []) := by simp [Hid, makesF, h1]
    clear h1
    go_enter Try.func24, Try.ntmps24
    go_wp2
    go_ret
    exact ⟨_, [], rfl, by rw [hf.out]; exact SlR.nil _ _ _, ⟨(Ext.refl _ _).alloc _, by simp, by simp⟩⟩
  · have e1 : (x.op == 16) = false := by simpa using h1
    by_cases h2 : x.op = 18
    · have e2 : (x.op == 18) = true := by simpa using h2
      have hf : Hid (makesF x = [x.dst, x.two]) := by simp [Hid, makesF, h2]
      clear h1 h2
      go_enter Try.func24, Try.ntmps24
      go_wp2
      go_ret
      refine ⟨_, [w.heap.size + 1], rfl, ?_, ⟨((Ext.refl _ _).alloc _).alloc _, by simp, by simp⟩⟩
      rw [hf.out]
      have := made_lit (w := w.alloc (.cells #[.int .i64 x.op, .int .i64 x.dst, .int .i64 x.two, v, .int .i32 x.imm] 54)) (x := [x.dst, x.two]) (by simp) (by simp)
      simpa using this
    · have e2 : (x.op == 18) = false := by simpa using h2
      have hf : Hid (makesF x = [x.dst]) := by simp [Hid, makesF, h1, h2]
      clear h1 h2
      go_enter Try.func24, Try.ntmps24
      go_wp2
      go_ret
      refine ⟨_, [w.heap.size + 1], rfl, ?_, ⟨((Ext.refl _ _).alloc _).alloc _, by simp, by simp⟩⟩
      rw [hf.out]
      have := made_lit (w := w.alloc (.cells #[.int .i64 x.op, .int .i64 x.dst, .int .i64 x.two, v, .int .i32 x.imm] 54)) (x := [x.dst]) (by simp) (by simp)
      simpa using this

def MSt.addI (st : MSt) (b : Nat) (x : JIns) : MSt := { st with blocks := st.blocks.modify b (more [x]), live := st.live ++ makesF x }
def AddP (w : World) (q : Nat) (vs : Value) (F : List Nat) (a : Nat) (st : MSt) (vts : List Value) (S : List Nat) (e : Ending) (w' : World) : Prop :=
  e = .returned (.tuple #[]) ∧ ∃ F', MkE w' q vs F' a st vts ∧ Ext F w w' ∧ ∀ k ∈ F', k ∈ F ∨ k ∈ S ∨ w.heap.size ≤ k
theorem zip_modify {bs : List JBlock} {vts : List Value} {b : Nat} (hb : b < bs.length) (hl : vts.length = bs.length) (f : JBlock → JBlock) : (bs.modify b f).zip vts = (bs.zip vts).set b (f bs[b], vts[b]'(by omega)) := by
  refine List.ext_getElem (by simp) fun i h1 h2 => ?_
  simp only [List.getElem_zip, List.getElem_modify, List.getElem_set]
  by_cases h : b = i
  · subst h; simp
  · simp [h]

theorem exec_append {P : Program} {o : Oper} {a : Act} {s x : Operand} {t : TypeId} {v xv v' : Value} {w w' : World} (ho : o.op = .call { callee := .builtin .append, args := #[s, x], argTypes := #[t, t] }) (hs : a.eval s = v) (hx : a.eval x = xv)
    (hr : (Builtin.append_ #[t, t] o.type #[v, xv]).run P w = .ok v' w') : (execOp a.eval o).run P w = .ok (.value v') w' := by
  unfold execOp
  simp only [ho, resolve, invoke, builtin, Sem.run_bind, Sem.run_pure, Result.andThen_ok, List.map_toArray, List.map_cons, List.map_nil, hs, hx, hr]
set_option maxRecDepth 20000 in
set_option maxHeartbeats 1600000 in
theorem add_calls {w : World} {q : Nat} {vs : Value} {F : List Nat} {a : Nat} {st : MSt} {vts : List Value} (h : MkE w q vs F a st vts) (b : Nat) (hb : b < st.blocks.length) {S : List Nat} {cs : List Value} {x : JIns} (hx : kIns.rep w S x cs) (hS : ∀ k ∈ S, k ∉ F) (hSn : S.Nodup) (hrS : RdS w (F ++ S) vs)
    (hbl : st.blocks.length ≤ 100000) (hil : ∀ y ∈ st.blocks, y.ins.length ≤ 1000000) (hll : st.live.length ≤ 1000000) :
    Calls Try.prog 44 #[.pointer (some ⟨q, 0, none⟩), .int .i64 (b : Int), .agg cs.toArray] w (AddP w q vs F a (st.addI b x) vts S) := by
  obtain ⟨vb, vl, Sb, Sl, H⟩ := h
  obtain ⟨v, rfl, hxa⟩ := hx
  obtain ⟨Av, cv, rfl, _⟩ := hxa.shape
  have hvl := H.vlen
  have hbz : b < (st.blocks.zip vts).length := by rw [List.length_zip]; omega
  obtain ⟨g0, cap, Sbb, cs0, hv, hat⟩ := H.bs.at b hbz
  have hgz : (st.blocks.zip vts)[b]'hbz = (st.blocks[b]'hb, vts[b]'(by rw [hvl]; exact hb)) := by simp
  obtain ⟨L, hL⟩ : ∃ L, L = (st.blocks.zip vts).length := ⟨_, rfl⟩
  have hL2 : L = st.blocks.length := by rw [hL, List.length_zip]; omega
  rw [← hL] at hv
  subst hv
  have hrep := hat.rep
  rw [hgz] at hrep
  obtain ⟨vp, vi, va, Sp, Si, Sa, St, rfl, hr⟩ := hrep
  obtain ⟨Ai, ci, rfl, _⟩ := hr.i.shape
  simp only at hr
  have hn0 := hil st.blocks[b] (List.getElem_mem hb)
  have z1 := hat.cell 1 rfl
  simp only [kBV] at z1
  obtain ⟨W1, hW1⟩ : ∃ x', x' = w.alloc (.cells #[.int .i64 x.op, .int .i64 x.dst, .int .i64 x.two, .slice Av x.args.length cv, .int .i32 x.imm] 54) := ⟨_, rfl⟩
  have hx1 : Ext [] w W1 := by rw [hW1]; exact (Ext.refl _ _).alloc _
  have hB1 : Blk W1 w.heap.size 54 #[.int .i64 x.op, .int .i64 x.dst, .int .i64 x.two, .slice Av x.args.length cv, .int .i32 x.imm] := by rw [hW1]; exact Blk.new _ _ _
  have H1 := H.ext0 hx1
  have c3 := H1.blk.cell (i := 3) rfl
  have hbL : b < L := by omega
  have hzf := (hat.ext0 hx1).frozen (b * 6 + 1)
  have z1' := hx1.cell z1 (by simp)
  have hatd := (hat.ext0 hx1).ext0 ((Ext.refl [] W1).drew)
  obtain ⟨n0, hn0e⟩ : ∃ n0, n0 = st.blocks[b].ins.length := ⟨_, rfl⟩
  rw [← hn0e] at hn0 z1 z1' hr
  have hndF := H.nd
  have hfp := H.fp
  have hqF : q ∉ Sb ++ Sl := by rw [hfp] at hndF; exact (List.nodup_cons.1 hndF).1
  have hbl2 : (Sb ++ Sl).Nodup := by rw [hfp] at hndF; exact (List.nodup_cons.1 hndF).2
  have hndb : Sb.Nodup := (List.nodup_append.1 hbl2).1
  have hndl : Sl.Nodup := (List.nodup_append.1 hbl2).2.1
  have hdbl := (List.nodup_append.1 hbl2).2.2
  have hmS := hat.mem
  have hgn := hat.notin
  have hnbb := hat.nodup hndb
  have hsS := hr.s
  have hSi : ∀ k ∈ Si, k ∈ Sbb := fun k hk => by rw [hsS]; simp [hk]
  have hSiF : ∀ k ∈ Si, k ∈ F := fun k hk => by rw [hfp]; simp [hmS.2 k (hSi k hk)]
  have hg0F : g0 ∈ F := by rw [hfp]; simp [hmS.1]
  have hqSi : q ∉ Si := fun hk => hqF (by simp [hmS.2 q (hSi q hk)])
  have hg0Si : g0 ∉ Si := fun hk => hgn (hSi g0 hk)
  have hltSb := H.bs.lt
  have hltS := hxa.lt
  have hSiw : ∀ k ∈ Si, k < w.heap.size := fun k hk => hltSb k (hmS.2 k (hSi k hk))
  obtain ⟨W2, hW2⟩ : ∃ x', x' = W1.drew.alloc (.cells #[.int .i64 x.op, .int .i64 x.dst, .int .i64 x.two, .slice Av x.args.length cv, .int .i32 x.imm] 54) := ⟨_, rfl⟩
  have hx2 : Ext [] W1 W2 := by rw [hW2]; exact (Ext.refl _ _).drew.alloc _
  have hx12 : Ext [] w W2 := hx1.nil hx2
  have hsz2 : w.heap.size + 2 ≤ W2.heap.size := by rw [hW2, hW1]; simp
  have hrepx : kIns.rep W2 S x [.int .i64 x.op, .int .i64 x.dst, .int .i64 x.two, .slice Av x.args.length cv, .int .i32 x.imm] := ⟨_, rfl, hxa.ext0 hx12⟩
  have hone := Kd.one kIns hrepx
  have hsrc : Src W2 (.slice (some ⟨W1.heap.size, 0, none⟩) 1 1) 1 [.int .i64 x.op, .int .i64 x.dst, .int .i64 x.two, .slice Av x.args.length cv, .int .i32 x.imm] := by rw [hW2]; exact Src.blk (w := W1.drew) (cs := [.int .i64 x.op, .int .i64 x.dst, .int .i64 x.two, .slice Av x.args.length cv, .int .i32 x.imm]) (T := 54) 1
  have hdis : ∀ k ∈ [S].flatten, k ∉ Si := fun k hk hk2 => hS k (by simpa using hk) (hSiF k hk2)
  have hil2 : st.blocks[b].ins.length ≤ 1073741824 := by rw [← hn0e]; omega
  obtain ⟨v', w3, S', hrun, hs', hxx, hf', hn'⟩ := run_append_sl (ty := 39) (d := kIns) (ys := [x]) ei_ins (hr.i.ext0 hx12) (.slice (some ⟨W1.heap.size, 0, none⟩) 1 1) [.int .i64 x.op, .int .i64 x.dst, .int .i64 x.two, .slice Av x.args.length cv, .int .i32 x.imm] [S] (elems_single hrepx) rfl hone hsrc hdis (le_maxLen hil2) (le_bytesB hil2 (by decide))
  have hCd : Blk W1.drew w.heap.size 54 #[.int .i64 x.op, .int .i64 x.dst, .int .i64 x.two, .slice Av x.args.length cv, .int .i32 x.imm] := hB1.drew
  have hC1 : W1.drew.cell? ⟨q, 3, none⟩ = some (.slice (some ⟨g0, 0, none⟩) L cap) ∧ W1.drew.cell? ⟨g0, b * 6 + 1, none⟩ = some (.slice Ai n0 ci) ∧ Blk W1.drew w.heap.size 54 #[.int .i64 x.op, .int .i64 x.dst, .int .i64 x.two, .slice Av x.args.length cv, .int .i32 x.imm] := ⟨c3, z1', hCd⟩
  have hCx2 : Ext [] W1.drew W2 := by rw [hW2]; exact (Ext.refl _ _).alloc _
  have hC2 : W2.cell? ⟨q, 3, none⟩ = some (.slice (some ⟨g0, 0, none⟩) L cap) ∧ W2.cell? ⟨g0, b * 6 + 1, none⟩ = some (.slice Ai n0 ci) ∧ Blk W2 w.heap.size 54 #[.int .i64 x.op, .int .i64 x.dst, .int .i64 x.two, .slice Av x.args.length cv, .int .i32 x.imm] := ⟨hCx2.cell hC1.1 (by simp), hCx2.cell hC1.2.1 (by simp), hCd.ext hCx2 (by simp)⟩
  have hC3 : w3.cell? ⟨q, 3, none⟩ = some (.slice (some ⟨g0, 0, none⟩) L cap) ∧ w3.cell? ⟨g0, b * 6 + 1, none⟩ = some (.slice Ai n0 ci) ∧ Blk w3 w.heap.size 54 #[.int .i64 x.op, .int .i64 x.dst, .int .i64 x.two, .slice Av x.args.length cv, .int .i32 x.imm] :=
    ⟨hxx.cell hC2.1 hqSi, hxx.cell hC2.2.1 hg0Si, hC2.2.2.ext hxx (fun hk => by have := hSiw _ hk; omega)⟩
  have hfz3 : w3.frozen? ⟨g0, b * 6 + 1, none⟩ = false := by
    have h1 := (hat.ext0 hx12).frozen (b * 6 + 1)
    rw [hxx.frozen (p := ⟨g0, b * 6 + 1, none⟩) ((hat.ext0 hx12).lt) hg0Si]; exact h1
  have Hfp := Lib.hid hfp
  have HrS := Lib.hid hrS
  clear hrS
  have HnF := Lib.hid hndF
  have Hdbl := Lib.hid hdbl
  have HS := Lib.hid hS
  have HsS := Lib.hid hsS
  have Hat := Lib.hid hat
  have Hr := Lib.hid hr
  have HH := Lib.hid H
  have Hxa := Lib.hid hxa
  have Hs' := Lib.hid hs'
  have Hxx := Lib.hid hxx
  have Hf' := Lib.hid hf'
  have Hn' := Lib.hid hn'
  have HhW2 := Lib.hid hW2
  have Hn0 := Lib.hid hn0e
  have HgL := Lib.hid hL
  have hww := hB1.lt
  clear hfp hndF hdbl hS hsS hat hr H hxa hs' hf' hn' hone hsrc hdis hrepx hL hn0e H1 hatd
  go_enter Try.func44, Try.ntmps44
  go_wp2
  rw [← hW1]
  have HhW1 := Lib.hid hW1
  clear hW1 hW2
  refine wp_region_rt (fun W => W.cell? ⟨q, 3, none⟩ = some (.slice (some ⟨g0, 0, none⟩) L cap) ∧ W.cell? ⟨g0, b * 6 + 1, none⟩ = some (.slice Ai n0 ci) ∧ Blk W w.heap.size 54 #[.int .i64 x.op, .int .i64 x.dst, .int .i64 x.two, .slice Av x.args.length cv, .int .i32 x.imm])
    (.q 0 (.q 1 (.q 2 (.q 3 (.q 4 (.q 5 (.q 6 (.q 7 (.q 8 (.q 9 (.q 10 (.q 11 (.q 12 (.q 13 (.q 14 (.q 15 (.e 16 (.e 17 (.q 18 (.q 19 (.fin 20))))))))))))))))))))) (by kernel_rfl) (by kernel_rfl) hC1 ?_
  refine rt_quiet (.pointer (some ⟨q, 0, none⟩)) rfl rfl (fun W' hC => by simp [go_sem]) ?_
  simp only [put_lit, put_none, List.set_cons_succ, List.set_cons_zero]
  refine rt_quiet (.pointer (some ⟨q, 0, none⟩)) rfl rfl (fun W' hC => by simp [go_sem]) ?_
  simp only [put_lit, put_none, List.set_cons_succ, List.set_cons_zero]
  refine rt_quiet (.pointer (some ⟨q, 2, none⟩)) rfl rfl (fun W' hC => by simp [go_sem]) ?_
  simp only [put_lit, put_none, List.set_cons_succ, List.set_cons_zero]
  refine rt_quiet (.pointer (some ⟨q, 3, none⟩)) rfl rfl (fun W' hC => by simp [go_sem]) ?_
  simp only [put_lit, put_none, List.set_cons_succ, List.set_cons_zero]
  refine rt_quiet (.slice (some ⟨g0, 0, none⟩) L cap) rfl rfl (fun W' hC => by simp [go_sem, hC.1]) ?_
  simp only [put_lit, put_none, List.set_cons_succ, List.set_cons_zero]
  refine rt_quiet (.int .i64 (b : Int)) rfl rfl (fun W' hC => by simp [go_sem]) ?_
  simp only [put_lit, put_none, List.set_cons_succ, List.set_cons_zero]
  refine rt_quiet (.pointer (some ⟨q, 0, none⟩)) rfl rfl (fun W' hC => by simp [go_sem]) ?_
  simp only [put_lit, put_none, List.set_cons_succ, List.set_cons_zero]
  refine rt_quiet (.pointer (some ⟨q, 0, none⟩)) rfl rfl (fun W' hC => by simp [go_sem]) ?_
  simp only [put_lit, put_none, List.set_cons_succ, List.set_cons_zero]
  refine rt_quiet (.pointer (some ⟨q, 2, none⟩)) rfl rfl (fun W' hC => by simp [go_sem]) ?_
  simp only [put_lit, put_none, List.set_cons_succ, List.set_cons_zero]
  refine rt_quiet (.pointer (some ⟨q, 3, none⟩)) rfl rfl (fun W' hC => by simp [go_sem]) ?_
  simp only [put_lit, put_none, List.set_cons_succ, List.set_cons_zero]
  refine rt_quiet (.slice (some ⟨g0, 0, none⟩) L cap) rfl rfl (fun W' hC => by simp [go_sem, hC.1]) ?_
  simp only [put_lit, put_none, List.set_cons_succ, List.set_cons_zero]
  refine rt_quiet (.int .i64 (b : Int)) rfl rfl (fun W' hC => by simp [go_sem]) ?_
  simp only [put_lit, put_none, List.set_cons_succ, List.set_cons_zero]
  refine rt_quiet (.pointer (some ⟨g0, b * 6, none⟩)) rfl rfl (fun W' hC => by simp [go_sem, hbL]) ?_
  simp only [put_lit, put_none, List.set_cons_succ, List.set_cons_zero]
  refine rt_quiet (.pointer (some ⟨g0, b * 6 + 1, none⟩)) rfl rfl (fun W' hC => by simp [go_sem]) ?_
  simp only [put_lit, put_none, List.set_cons_succ, List.set_cons_zero]
  refine rt_quiet (.slice Ai n0 ci) rfl rfl (fun W' hC => by simp [go_sem, hC.2.1]) ?_
  simp only [put_lit, put_none, List.set_cons_succ, List.set_cons_zero]
  refine rt_quiet (.agg #[.int .i64 x.op, .int .i64 x.dst, .int .i64 x.two, .slice Av x.args.length cv, .int .i32 x.imm]) rfl rfl (fun W' hC => by simp [go_sem, hC.2.2.cell (i := 0) rfl, hC.2.2.cell (i := 1) rfl, hC.2.2.cell (i := 2) rfl, hC.2.2.cell (i := 3) rfl, hC.2.2.cell (i := 4) rfl]) ?_
  simp only [put_lit, put_none, List.set_cons_succ, List.set_cons_zero]
  refine s_eff (.slice (some ⟨W1.heap.size, 0, none⟩) 1 1) (w' := W2) rfl rfl (by rw [HhW2.out]; simp [go_sem]) ⟨hC2, ?_⟩
  simp only [put_lit, put_none, List.set_cons_succ, List.set_cons_zero]
  refine s_eff v' (w' := w3) rfl rfl (exec_append rfl rfl rfl hrun) ⟨hC3, ?_⟩
  simp only [put_lit, put_none, List.set_cons_succ, List.set_cons_zero]
  refine rt_quiet (.pointer (some ⟨g0, b * 6, none⟩)) rfl rfl (fun W' hC => by simp [go_sem, hbL]) ?_
  simp only [put_lit, put_none, List.set_cons_succ, List.set_cons_zero]
  refine rt_quiet (.pointer (some ⟨g0, b * 6 + 1, none⟩)) rfl rfl (fun W' hC => by simp [go_sem]) ?_
  simp only [put_lit, put_none, List.set_cons_succ, List.set_cons_zero]
  obtain ⟨A3, c3', rfl, _⟩ := Hs'.out.shape
  refine fin_eff0 (w' := w3.setCell ⟨g0, b * 6 + 1, none⟩ (.slice A3 (st.blocks[b].ins ++ [x]).length c3')) rfl rfl (by simp [go_sem, hC3.2.1, hfz3]) ?_
  simp only [put_lit, put_none, List.set_cons_succ, List.set_cons_zero]
  obtain ⟨W4, hW4⟩ : ∃ x', x' = w3.setCell ⟨g0, b * 6 + 1, none⟩ (.slice A3 (st.blocks[b].ins ++ [x]).length c3') := ⟨_, rfl⟩
  have HW4 := Lib.hid hW4
  -- the block, its row longer
  have hsz3 : w.heap.size + 2 ≤ w3.heap.size := Nat.le_trans hsz2 Hxx.out.size
  have hkeep : ∀ k, k < w.heap.size → k ∉ Si → k ≠ g0 → W4.heap[k]? = w.heap[k]? := fun k hk h1 h2 => by
    rw [hW4, Below.heap_setCell w3 ⟨g0, b * 6 + 1, none⟩ _ k h2]
    exact (Hxx.out.block k (by omega) h1).trans (hx12.block k hk (by simp))
  have hSxd : ∀ k ∈ S', k ∈ Si ∨ k = W2.heap.size ∨ k ∈ S := fun k hk => by simpa using Hf'.out k hk
  have hndS' : S'.Nodup := Hn'.out (by
    have h1 := hnbb
    rw [HsS.out] at h1
    exact (List.nodup_append.1 (List.nodup_append.1 h1).2.1).1) (by simpa using hSn)
  have hW4e : Ext F w W4 := by
    rw [hW4]
    exact ((hx12.mono (M' := F) (by simp)).trans Hxx.out (fun k hk => .inl (hSiF k hk))).setCell (.inl hg0F) _
  have hSF : ∀ k ∈ S, k ∉ Sb := fun k hk h2 => HS.out k hk (by rw [Hfp.out]; simp [h2])
  have hltSb' : ∀ k ∈ Sb, k < w.heap.size := hltSb
  have hdp : ∀ k ∈ Sbb, k ∈ Sb := hmS.2
  obtain ⟨Sb1, hs1, hf1, hn1⟩ : ∃ Sb1, SlR kBV 43 W4 Sb1 (.slice (some ⟨g0, 0, none⟩) L cap) ((st.blocks.modify b (more [x])).zip vts) ∧ (∀ k ∈ Sb1, k ∈ Sb ∨ k ∈ S ∨ k = W2.heap.size) ∧ Sb1.Nodup := by
    have h1 := hnbb
    rw [HsS.out] at h1
    obtain ⟨m1, m2, m3⟩ := List.nodup_append.1 h1
    obtain ⟨m4, m5, m6⟩ := List.nodup_append.1 m2
    have hin : ∀ k, k ∈ Sp ∨ k ∈ Sa ∨ k ∈ St → k ∈ Sbb ∧ k ∉ Si ∧ k ∉ S' := by
      rintro k hk
      have h2 : k ∈ Sbb := by rw [HsS.out]; simp; rcases hk with h | h | h <;> simp [h]
      have h3 : k ∉ Si := by
        intro hi
        rcases hk with h | h | h
        · exact m3 k h k (by simp [hi]) rfl
        · exact m6 k hi k (by simp [h]) rfl
        · exact m6 k hi k (by simp [h]) rfl
      refine ⟨h2, h3, fun hs => ?_⟩
      rcases hSxd k hs with h4 | h4 | h4
      · exact h3 h4
      · have := hltSb k (hdp k h2); omega
      · exact hSF k h4 (hdp k h2)
    have hmv : ∀ (T : List Nat), (∀ k ∈ T, k ∈ Sp ∨ k ∈ Sa ∨ k ∈ St) → ∀ k ∈ T, W4.heap[k]? = w.heap[k]? := fun T hT k hk => by
      obtain ⟨h2, h3, _⟩ := hin k (hT k hk)
      exact hkeep k (hltSb k (hdp k h2)) h3 (fun e => hgn (e ▸ h2))
    have hput := Hat.out.putG (w1 := w3) (x' := (more [x] st.blocks[b], vts[b]'(by rw [hvl]; exact hb))) (Sx := Sp ++ (S' ++ (Sa ++ St))) hndb (fun k hk h2 => (Hxx.out.block k (by have := hltSb k hk; omega) (fun h3 => h2 (hSi k h3))).trans (hx12.block k (hltSb k hk) (by simp))) 1 (by decide) (.slice A3 (st.blocks[b].ins ++ [x]).length c3')
      (by
        show kBV.rep (w3.setCell ⟨g0, b * 6 + 1, none⟩ _) _ _ _
        rw [← hW4]
        refine ⟨_, _, _, Sp, S', Sa, St, rfl, ⟨Hr.out.p.move (hmv Sp fun k hk => .inl hk), ?_, Hr.out.a.move (hmv Sa fun k hk => .inr (.inl hk)), Hr.out.t.move (hmv St fun k hk => .inr (.inr hk)), rfl⟩⟩
        have hg0S' : g0 ∉ S' := fun hk => by
          rcases hSxd g0 hk with h4 | h4 | h4
          · exact hg0Si h4
          · have := hltSb g0 hmS.1; omega
          · exact HS.out g0 h4 hg0F
        have := Hs'.out.move (w' := W4) (fun k hk => by rw [hW4, Below.heap_setCell w3 ⟨g0, b * 6 + 1, none⟩ _ k (fun e => hg0S' (by have e' : k = g0 := e; rw [← e']; exact hk))])
        exact this)
      (by
        intro k hk
        simp only [List.mem_append] at hk
        rcases hk with hk | hk | hk | hk
        · exact .inl (hin k (.inl hk)).1
        · rcases hSxd k hk with h4 | h4 | h4
          · exact .inl (hSi k h4)
          · exact .inr (fun h5 => by have := hltSb k h5; omega)
          · exact .inr (hSF k h4)
        · exact .inl (hin k (.inr (.inl hk))).1
        · exact .inl (hin k (.inr (.inr hk))).1)
    obtain ⟨Sb1, p1, p2, p3⟩ := hput
    refine ⟨Sb1, ?_, ?_, p3 ?_⟩
    · rw [zip_modify hb hvl, hW4, HgL.out]; exact p1
    · intro k hk
      rcases p2 k hk with h4 | h4
      · exact .inl h4
      · simp only [List.mem_append] at h4
        rcases h4 with h4 | h4 | h4 | h4
        · exact .inl (hdp k (hin k (.inl h4)).1)
        · rcases hSxd k h4 with h5 | h5 | h5
          · exact .inl (hdp k (hSi k h5))
          · exact .inr (.inr h5)
          · exact .inr (.inl h5)
        · exact .inl (hdp k (hin k (.inr (.inl h4))).1)
        · exact .inl (hdp k (hin k (.inr (.inr h4))).1)
    · obtain ⟨m7, m8, m9⟩ := List.nodup_append.1 m5
      refine List.nodup_append.2 ⟨m1, List.nodup_append.2 ⟨hndS', m5, ?_⟩, ?_⟩
      · rintro k hk k' hk' rfl
        rcases List.mem_append.1 hk' with h4 | h4
        · exact (hin k (.inr (.inl h4))).2.2 hk
        · exact (hin k (.inr (.inr h4))).2.2 hk
      · rintro k hk k' hk' rfl
        rcases List.mem_append.1 hk' with h4 | h4
        · exact (hin k (.inl hk)).2.2 h4
        · exact m3 k hk k (by simp [h4]) rfl
  have hqg : q ≠ g0 := fun e => hqF (by rw [e]; simp [hmS.1])
  have hlq := HH.out.blk.lt
  have hB4 : Blk W4 q 58 #[vs, .int .i64 (a : Int), .int .i64 st.params, .slice (some ⟨g0, 0, none⟩) L cap, .int .i64 st.next, vl] := HH.out.blk.move (hkeep q hlq hqSi hqg)
  have hdl : ∀ k ∈ Sl, k ∉ Sb := fun k hk h2 => Hdbl.out k h2 k hk rfl
  have hL4 : SlR kInt 3 W4 Sl vl st.live := HH.out.lv.move fun k hk => hkeep k (HH.out.lv.lt k hk) (fun h2 => hdl k hk (hdp k (hSi k h2))) (fun h2 => hdl k hk (by rw [h2]; exact hmS.1))
  have hrx4 : kIns.rep W4 S x [.int .i64 x.op, .int .i64 x.dst, .int .i64 x.two, .slice Av x.args.length cv, .int .i32 x.imm] := ⟨_, rfl, Hxa.out.move fun k hk => hkeep k (hltS k hk) (fun h2 => HS.out k hk (hSiF k h2)) (fun h2 => HS.out k hk (by rw [h2]; exact hg0F))⟩
  have hbx4 : Blk W4 w.heap.size 54 #[.int .i64 x.op, .int .i64 x.dst, .int .i64 x.two, .slice Av x.args.length cv, .int .i32 x.imm] := by
    rw [hW4]
    exact hC3.2.2.far (p := ⟨g0, b * 6 + 1, none⟩) (fun e => by have h5 := hltSb g0 hmS.1; have e' : w.heap.size = g0 := e; omega) _
  have hsz4 : w.heap.size ≤ W4.heap.size := hW4e.size
  clear hkeep
  rw [← hW4]
  clear hW4
  obtain ⟨Al, cl, rfl, _⟩ := hL4.shape
  have r0 := hbx4.cell (i := 0) rfl
  have r1 := hbx4.cell (i := 1) rfl
  have r2 := hbx4.cell (i := 2) rfl
  have r3 := hbx4.cell (i := 3) rfl
  have r4 := hbx4.cell (i := 4) rfl
  have HB4 := Lib.hid hB4
  have HL4 := Lib.hid hL4
  have Hs1 := Lib.hid hs1
  have Hf1 := Lib.hid hf1
  have HW4e := Lib.hid hW4e
  clear hB4 hL4 hs1 hf1 hW4e hmS hdp hltSb hltSb' hSxd hSi hSiF hSiw hSF hC1 hC2 hC3 c3 z1 z1' hzf hfz3 hrun hxx hCx2 hCd hx12 hx2 hnbb hgn hbl2 hdl
  go_wp2_with fail
  refine (makes3_calls hrx4).mono ?_
  rintro e W5 ⟨v5, S5, rfl, h5, hnew5⟩
  have hB5 := HB4.out.ext hnew5.ext (by simp)
  have hL5 := HL4.out.ext0 hnew5.ext
  have d5 := hB5.cell (i := 5) rfl
  have fz5 := hB5.frozen 5
  obtain ⟨news, Sy, hE, hl5, h15, hsrc5, _, _⟩ := h5.src (by decide)
  have hSy : Sy.flatten = [] := by rw [(elems_sc.1 hE).1, flatten_nils]
  obtain ⟨A5, c5, rfl, _⟩ := h5.shape
  have hml := makesF_len x
  have hfl : st.live.length + (makesF x).length ≤ maxLen := by simp only [maxLen]; omega
  have hflb : (st.live.length + (makesF x).length) * 8 ≤ 140737488355328 := by omega
  have hqSl : q ∉ Sl := fun hk => hqF (by simp [hk])
  have hdis5 : ∀ k ∈ Sy.flatten, k ∉ Sl := by rw [hSy]; simp
  have Hfl := Lib.hid hfl
  have Hflb := Lib.hid hflb
  have Hdis5 := Lib.hid hdis5
  have HSy := Lib.hid hSy
  have HhE := Lib.hid hE
  have Hh15 := Lib.hid h15
  have Hl5 := Lib.hid hl5
  have HB5 := Lib.hid hB5
  clear hfl hflb hdis5 hSy hE h15 hl5 hml
  go_wp2_with (at_builtin; refine wpList_append_sl (d := kInt) (ys := makesF x) rfl (.tmp 33) (.tmp 34) 22 rfl ei_int rfl hL5 rfl news Sy HhE.out Hl5.out Hh15.out hsrc5 Hdis5.out Hfl.out Hflb.out ?_; intro v6 w6 S6 hs6 hx6 hf6 hn6; have hB6 := HB5.out.ext hx6 hqSl; have t5 := hB6.cell (i := 5) rfl; have t5f := hB6.frozen 5; obtain ⟨A6, c6, rfl, _⟩ := hs6.shape)
  go_end0
  have e6 : (st.live ++ makesF x).length = st.live.length + (makesF x).length := List.length_append
  rw [e6] at hs6
  obtain ⟨W7, hW7⟩ : ∃ x', x' = w6.setCell ⟨q, 5, none⟩ (.slice A6 (st.live.length + (makesF x).length) c6) := ⟨_, rfl⟩
  have hlqw : q < w.heap.size := HH.out.blk.lt
  have hsz5 := hnew5.ext.size
  have hS6 : ∀ k ∈ S6, k ∈ Sl ∨ w.heap.size ≤ k := fun k hk => by
    rcases hf6 k hk with h1 | h1 | h1
    · exact .inl h1
    · exact .inr (by omega)
    · rw [HSy.out] at h1; cases h1
  have hqS6 : q ∉ S6 := fun hk => by
    rcases hS6 q hk with h1 | h1
    · exact hqSl h1
    · omega
  have hqSb1 : q ∉ Sb1 := fun hk => by
    rcases Hf1.out q hk with h1 | h1 | h1
    · exact hqF (by simp [h1])
    · exact HS.out q h1 (by rw [Hfp.out]; simp)
    · omega
  have hsetk : ∀ k, k ≠ q → W7.heap[k]? = w6.heap[k]? := fun k hk => by rw [hW7]; exact Below.heap_setCell w6 ⟨q, 5, none⟩ _ k hk
  have hltl := HL4.out.lt
  have hlb1 : ∀ k ∈ Sb1, k ∉ Sl := fun k hk h2 => by
    rcases Hf1.out k hk with h1 | h1 | h1
    · exact Hdbl.out k h1 k h2 rfl
    · exact HS.out k h1 (by rw [Hfp.out]; simp [h2])
    · have := HH.out.lv.lt k h2; omega
  have hx7 : Ext F w W7 := by
    rw [hW7]
    exact ((HW4e.out.trans hnew5.ext (by simp)).trans hx6 (fun k hk => .inl (by rw [Hfp.out]; simp [hk]))).setCell (.inl (by rw [Hfp.out]; simp)) _
  have hSb1lt := Hs1.out.lt
  have hfin : ∀ k ∈ q :: (Sb1 ++ S6), k ∈ F ∨ k ∈ S ∨ w.heap.size ≤ k := fun k hk => by
    simp only [List.mem_cons, List.mem_append] at hk
    rcases hk with rfl | hk | hk
    · exact .inl (by rw [Hfp.out]; simp)
    · rcases Hf1.out k hk with h1 | h1 | h1
      · exact .inl (by rw [Hfp.out]; simp [h1])
      · exact .inr (.inl h1)
      · exact .inr (.inr (by omega))
    · rcases hS6 k hk with h1 | h1
      · exact .inl (by rw [Hfp.out]; simp [h1])
      · exact .inr (.inr h1)
  rw [← hW7]
  refine ⟨rfl, q :: (Sb1 ++ S6), ⟨.slice (some ⟨g0, 0, none⟩) L cap, .slice A6 (st.live.length + (makesF x).length) c6, Sb1, S6, ⟨?_, ?_, ?_, ?_, rfl, ?_, ?_⟩⟩, hx7, hfin⟩
  · rw [hW7]
    have := hB6.set 5 (.slice A6 (st.live.length + (makesF x).length) c6)
    simpa [MSt.addI] using this
  · exact ((Hs1.out.ext0 hnew5.ext).ext hx6 (fun k hk => hlb1 k hk)).move fun k hk => hsetk k (fun e => hqSb1 (e ▸ hk))
  · simp [MSt.addI, hvl]
  · exact hs6.move fun k hk => hsetk k (fun e => hqS6 (e ▸ hk))
  · refine List.nodup_cons.2 ⟨by simp [hqSb1, hqS6], List.nodup_append.2 ⟨hn1, hn6 hndl (by rw [HSy.out]; simp), ?_⟩⟩
    rintro k hk k' hk' rfl
    rcases hf6 k hk' with h1 | h1 | h1
    · exact hlb1 k hk h1
    · have := hSb1lt k hk; omega
    · rw [HSy.out] at h1; cases h1
  · obtain ⟨A, n, c, rfl, hn, hrd⟩ := HrS.out
    refine ⟨A, n, c, rfl, hn, fun i hi => ?_⟩
    obtain ⟨g, o, y, rfl, hg, hc⟩ := hrd i hi
    have hlt := lt_of_cell hc
    simp only at hlt
    refine ⟨g, o, y, rfl, fun hk => ?_, hx7.cell hc (fun h2 => hg (by simp [h2]))⟩
    rcases hfin g hk with h1 | h1 | h1
    · exact hg (by simp [h1])
    · exact hg (by simp [h1])
    · omega
end Go.Proofs.Ytkmgbejhbkbaoaa

/- The maker of functions: what its steps have in common; constants; values, some of them new. -/
namespace Go.Proofs.Ytkmgbejhbkbaoaa
set_option linter.unusedSimpArgs false
set_option linter.unusedVariables false
open Go.RowKit

theorem Sm.grow {K d a a' b c : Nat} {st st' : MSt} (h : Sm K a st) (hg : Grow b c st st') (ha : a' ≤ K + d) (hd : 2 * c ≤ d) : Sm (K + d) a' st' := by
  obtain ⟨news, hi, h1, h2, h3, rfl⟩ := hg
  have hle := h3.le
  refine ⟨ha, ⟨by have := h.2.1; simp only [MSt.grow]; omega, by have := h.2.1; simp only [MSt.grow]; omega⟩, ?_, ?_⟩
  · simp only [MSt.grow, List.length_append, List.length_flatMap]
    have : (news.map fun x => (makesF x).length).sum ≤ news.length * 2 := sum_le news _ 2 fun x _ => makesF_len x
    have := h.2.2.1
    omega
  · intro x hx
    simp only [MSt.grow] at hx
    obtain ⟨i, hi', rfl⟩ := List.getElem_of_mem hx
    have hi2 : i < st.blocks.length := by simpa using hi'
    rw [List.getElem_modify]
    have := h.2.2.2 _ (List.getElem_mem hi2)
    split
    · simp only [more, List.length_append]; omega
    · omega
/-- what a step of the maker's leaves: at most c instructions more at the end of block b -/
structure GP (w w' : World) (q : Nat) (vs : Value) (vts : List Value) (b c K d : Nat) (F F' : List Nat) (a' : Nat) (st st' : MSt) : Prop where
  mm : MkE w' q vs F' a' st' vts
  gr : Grow b c st st'
  sm : Sm (K + d) a' st'
  fp : FpStep F w w' F'
theorem FpStep.ext0 {F : List Nat} {w w1 : World} (h : Ext [] w w1) : FpStep F w w1 F := ⟨h.mono (by simp), fun _ h => .inl h⟩
section
variable {w w1 w2 : World} {q : Nat} {vs : Value} {vts : List Value} {b c c' K d d' : Nat} {F F1 F2 : List Nat} {a a1 a2 : Nat} {st st1 st2 : MSt}
theorem GP.refl (h : MkE w q vs F a st vts) (hs : Sm K a st) : GP w w q vs vts b 0 K 0 F F a st st := ⟨h, Grow.refl _ _, hs, FpStep.refl _ _⟩
theorem GP.trans (h : GP w w1 q vs vts b c K d F F1 a1 st st1) (k : GP w1 w2 q vs vts b c' (K + d) d' F1 F2 a2 st1 st2) : GP w w2 q vs vts b (c + c') K (d + d') F F2 a2 st st2 :=
  ⟨k.mm, h.gr.trans k.gr, by have := k.sm; rwa [Nat.add_assoc] at this, h.fp.trans k.fp⟩
theorem GP.mono (h : GP w w1 q vs vts b c K d F F1 a1 st st1) (hc : c ≤ c') (hd : d ≤ d') : GP w w1 q vs vts b c' K d' F F1 a1 st st1 := ⟨h.mm, h.gr.mono hc, h.sm.mono (by omega), h.fp⟩
theorem GP.ext0 (h : GP w w1 q vs vts b c K d F F1 a1 st st1) (hx : Ext [] w1 w2) : GP w w2 q vs vts b c K d F F1 a1 st st1 := ⟨h.mm.ext0 hx, h.gr, h.sm, h.fp.trans (.ext0 hx)⟩
theorem GP.still (h : MkE w1 q vs F a1 st vts) (hs : Sm K a st) (ha : a1 ≤ a + d) (hx : Ext F w w1) : GP w w1 q vs vts b 0 K d F F a1 st st :=
  ⟨h, Grow.refl _ _, hs.at' (by have := hs.1; omega) (by omega), hx, fun _ h => .inl h⟩
theorem GP.hb (h : GP w w1 q vs vts b c K d F F1 a1 st st1) (hb : b < st.blocks.length) : b < st1.blocks.length := by rw [h.gr.len]; exact hb
end

def TakeG (w : World) (q : Nat) (vs : Value) (vts : List Value) (b K : Nat) (F : List Nat) (st : MSt) (n : Int) (e : Ending) (w' : World) : Prop := ∃ (r a' : Nat), (r : Int) < n ∧ e = .returned (.int .i64 (r : Int)) ∧ GP w w' q vs vts b 0 K 1 F F a' st st
theorem takeG {w : World} {q : Nat} {vs : Value} {F : List Nat} {a K : Nat} {st : MSt} {vts : List Value} (h : MkE w q vs F a st vts) (hs : Sm K a st) (hK : K ≤ 900000) (b : Nat) (n : Int) (h0 : 0 < n) (h1 : n ≤ 1048576) :
    Calls Try.prog 19 #[.pointer (some ⟨q, 0, none⟩), .int .i64 n] w (TakeG w q vs vts b K F st n) := by
  refine (take_calls h (by have := hs.1; omega) n h0 h1).mono ?_
  rintro e w' ⟨r, hr, rfl, h1, hx⟩
  exact ⟨r, a + 1, hr, rfl, .still h1 hs (Nat.le_refl _) hx⟩
def WordG (w : World) (q : Nat) (vs : Value) (vts : List Value) (b K : Nat) (F : List Nat) (st : MSt) (e : Ending) (w' : World) : Prop := ∃ (r : Int) (a' : Nat), e = .returned (.int .i32 r) ∧ GP w w' q vs vts b 0 K 2 F F a' st st
theorem wordG {w : World} {q : Nat} {vs : Value} {F : List Nat} {a K : Nat} {st : MSt} {vts : List Value} (h : MkE w q vs F a st vts) (hs : Sm K a st) (hK : K ≤ 900000) (b : Nat) :
    Calls Try.prog 29 #[.pointer (some ⟨q, 0, none⟩)] w (WordG w q vs vts b K F st) := by
  refine (word_calls h (by have := hs.1; omega)).mono ?_
  rintro e w' ⟨r, rfl, h1, hx⟩
  exact ⟨r, a + 2, rfl, .still h1 hs (Nat.le_refl _) hx⟩

/-! ### an instruction with a new number -/
theorem addI_grow {st : MSt} {b : Nat} {x : JIns} {k : Int} (hk : 0 ≤ k) (hk2 : k ≤ 2) (hx : insOk x) (ha : ∀ a ∈ x.args, a ∈ st.live) (hm : ∀ v ∈ makesF x, st.next ≤ v ∧ v < st.next + k) (hn : (makesF x).Nodup) {st1 : MSt}
    (h : st1 = { st with next := st.next + k }) : Grow b 1 st (st1.addI b x) := by
  refine Grow.fresh (c := 0) hk hk2 hx ha hm hn ?_
  subst h
  simp [MSt.addI, MSt.grow]
def ConstG (w : World) (q : Nat) (vs : Value) (vts : List Value) (b K : Nat) (F : List Nat) (st : MSt) (imm : Int) (e : Ending) (w' : World) : Prop :=
  ∃ (a' : Nat) (F' : List Nat), e = .returned (.int .i64 st.next) ∧ GP w w' q vs vts b 1 K 2 F F' a' st (st.fresh.addI b ⟨1, st.next, 0, [], imm⟩)
set_option maxRecDepth 20000 in
theorem constG {w : World} {q : Nat} {vs : Value} {F : List Nat} {a K : Nat} {st : MSt} {vts : List Value} (h : MkE w q vs F a st vts) (hs : Sm K a st) (hK : K ≤ 900000) (b : Nat) (hb : b < st.blocks.length) (hbl : st.blocks.length ≤ 100000) (imm : Int) :
    Calls Try.prog 28 #[.pointer (some ⟨q, 0, none⟩), .int .i64 (b : Int), .int .i32 imm] w (ConstG w q vs vts b K F st imm) := by
  obtain ⟨hs1, hs2, hs3, hs4⟩ := hs
  have Hs : Hid (Sm K a st) := ⟨hs1, hs2, hs3, hs4⟩
  have Hs4 := Lib.hid hs4
  clear hs4
  obtain ⟨nx, hnx⟩ : ∃ nx, nx = st.next := ⟨_, rfl⟩
  have hn0 : 0 ≤ nx := by omega
  go_enter Try.func28, Try.ntmps28
  go_wp2_with fail
  refine (fresh_calls h (by omega) (by omega)).mono ?_
  rintro e w1 ⟨rfl, h1, hx1⟩
  rw [← hnx]
  have Hnx := Lib.hid hnx
  clear hnx
  go_wp2_with fail
  refine (add_calls h1 b hb (S := []) (cs := [.int .i64 1, .int .i64 nx, .int .i64 0, .slice none 0 0, .int .i32 imm]) (x := ⟨1, nx, 0, [], imm⟩) ⟨_, rfl, SlR.nil _ _ _⟩ (by simp) (by simp) (by obtain ⟨_, _, _, _, hh⟩ := h1; simpa using hh.rd) hbl (fun y hy => by have := Hs4.out y hy; omega) (by show st.live.length ≤ _; omega)).mono ?_
  rintro e w2 ⟨rfl, F', h2, hx2, hf2⟩
  have hg : Grow b 1 st (st.fresh.addI b ⟨1, nx, 0, [], imm⟩) := by
    rw [Hnx.out]
    refine addI_grow (k := 1) (by omega) (by omega) (by simp [insOk, opersF]) (by simp) ?_ (by simp [makesF]) rfl
    intro v hv; simp [makesF] at hv; omega
  go_wp2
  go_ret
  refine ⟨a, F', by rw [Hnx.out]; rfl, ?_⟩
  rw [← Hnx.out]
  exact ⟨h2, hg, Hs.out.grow hg (by omega) (by omega), hx1.same hx2, fun k hk => by
    rcases hf2 k hk with h3 | h3 | h3
    · exact .inl h3
    · cases h3
    · exact .inr (Nat.le_trans hx1.size h3)⟩
theorem addI_live {st : MSt} {b : Nat} {imm : Int} : st.next ∈ (st.fresh.addI b ⟨1, st.next, 0, [], imm⟩).live := by simp [MSt.addI, makesF]

def SomeG (w : World) (q : Nat) (vs : Value) (vts : List Value) (b K : Nat) (F : List Nat) (st : MSt) (e : Ending) (w' : World) : Prop :=
  ∃ (v : Int) (a' : Nat) (F' : List Nat) (st' : MSt), e = .returned (.int .i64 v) ∧ v ∈ st'.live ∧ GP w w' q vs vts b 1 K 10 F F' a' st st'
set_option maxRecDepth 20000 in
set_option maxHeartbeats 800000 in
theorem someG {w : World} {q : Nat} {vs : Value} {F : List Nat} {a K : Nat} {st : MSt} {vts : List Value} (h : MkE w q vs F a st vts) (hs : Sm K a st) (hK : K ≤ 800000) (b : Nat) (hb : b < st.blocks.length) (hbl : st.blocks.length ≤ 100000) :
    Calls Try.prog 43 #[.pointer (some ⟨q, 0, none⟩), .int .i64 (b : Int)] w (SomeG w q vs vts b K F st) := by
  have hs' := hs
  obtain ⟨hs1, hs2, hs3, hs4⟩ := hs
  have Hs := Lib.hid hs'
  clear hs4 hs'
  go_enter Try.func43, Try.ntmps43
  go_wp2_with fail
  refine (value_calls h (by omega) (by omega)).mono ?_
  rintro e w1 (⟨hnil, rfl, rfl⟩ | ⟨r, hr, rfl, h1, hx1⟩)
  · clear hnil
    go_wp2_with fail
    refine (wordG h Hs.out (by omega) b).mono ?_
    rintro e w2 ⟨imm, a2, rfl, g2⟩
    go_wp2_with fail
    refine (constG g2.mm g2.sm (by omega) b hb hbl imm).mono ?_
    rintro e w3 ⟨a3, F3, rfl, g3⟩
    go_wp2
    go_ret
    exact ⟨st.next, a3, F3, _, rfl, addI_live, (g2.trans g3).mono (by omega) (by omega)⟩
  · have g1 : GP w w1 q vs vts b 0 K 2 F F (a + 2) st st := .still h1 Hs.out (Nat.le_refl _) hx1
    go_wp2_with fail
    refine (takeG h1 g1.sm (by omega) b 9 (by omega) (by omega)).mono ?_
    rintro e w2 ⟨k, a2, hk, rfl, g2⟩
    by_cases hk0 : k = 0
    · subst hk0
      go_wp2_with fail
      refine (wordG g2.mm g2.sm (by omega) b).mono ?_
      rintro e w3 ⟨imm, a3, rfl, g3⟩
      go_wp2_with fail
      refine (constG g3.mm g3.sm (by omega) b hb hbl imm).mono ?_
      rintro e w4 ⟨a4, F4, rfl, g4⟩
      go_wp2
      go_ret
      exact ⟨st.next, a4, F4, _, rfl, addI_live, (((g1.trans g2).trans g3).trans g4).mono (by omega) (by omega)⟩
    · have e0 : ((k : Int) == 0) = false := by simp; omega
      have Hr := Lib.hid hr
      clear hr
      go_wp2
      go_ret
      exact ⟨r, a2, F, st, rfl, Hr.out, (g1.trans g2).mono (by omega) (by omega)⟩
end Go.Proofs.Ytkmgbejhbkbaoaa

/- The maker of functions: memory. -/
namespace Go.Proofs.Ytkmgbejhbkbaoaa
set_option linter.unusedSimpArgs false
set_option linter.unusedVariables false
open Go.RowKit

theorem RdS.wider {w : World} {F S : List Nat} {vs : Value} {w0 : World} (h : RdS w0 F vs) (hx : Ext F w0 w) (hS : ∀ k ∈ S, w0.heap.size ≤ k) : RdS w (F ++ S) vs := by
  obtain ⟨A, n, c, rfl, hn, h⟩ := h
  refine ⟨A, n, c, rfl, hn, fun i hi => ?_⟩
  obtain ⟨g, o, x, rfl, hg, hc⟩ := h i hi
  have hlt := lt_of_cell hc
  simp only at hlt
  refine ⟨g, o, x, rfl, fun hk => ?_, hx.cell hc hg⟩
  rcases List.mem_append.1 hk with h1 | h1
  · exact hg h1
  · have := hS g h1; omega
theorem MkE.lt {w : World} {q : Nat} {vs : Value} {F : List Nat} {a : Nat} {st : MSt} {vts : List Value} (h : MkE w q vs F a st vts) : ∀ k ∈ F, k < w.heap.size := by
  obtain ⟨vb, vl, Sb, Sl, h⟩ := h
  rw [h.fp]
  intro k hk
  simp only [List.mem_cons, List.mem_append] at hk
  rcases hk with rfl | hk | hk
  · exact h.blk.lt
  · exact h.bs.lt k hk
  · exact h.lv.lt k hk
theorem MkE.rd {w : World} {q : Nat} {vs : Value} {F : List Nat} {a : Nat} {st : MSt} {vts : List Value} (h : MkE w q vs F a st vts) : RdS w F vs := by
  obtain ⟨vb, vl, Sb, Sl, h⟩ := h
  exact h.rd
/-- behind new numbers: an instruction at a block's end, of values at hand -/
theorem addG {w w1 : World} {q : Nat} {vs : Value} {F : List Nat} {a K : Nat} {st : MSt} {vts : List Value} {k : Int} (hx1 : Ext F w w1) (hF : ∀ k ∈ F, k < w.heap.size) (hr0 : RdS w F vs) (h : MkE w1 q vs F a { st with next := st.next + k } vts) (hs : Sm K a st) (hK : K ≤ 900000) (hk : 0 ≤ k) (hk2 : k ≤ 2) (b : Nat) (hb : b < st.blocks.length) (hbl : st.blocks.length ≤ 100000)
    {S : List Nat} {v : Value} (x : JIns) (hargs : SlR kInt 3 w1 S v x.args) (hS : ∀ k ∈ S, w.heap.size ≤ k) (hSn : S.Nodup) (hx : insOk x) (ha : ∀ y ∈ x.args, y ∈ st.live) (hm : ∀ v ∈ makesF x, st.next ≤ v ∧ v < st.next + k) (hn : (makesF x).Nodup) :
    Calls Try.prog 44 #[.pointer (some ⟨q, 0, none⟩), .int .i64 (b : Int), .agg #[.int .i64 x.op, .int .i64 x.dst, .int .i64 x.two, v, .int .i32 x.imm]] w1 fun e w' =>
      e = .returned (.tuple #[]) ∧ ∃ F', GP w w' q vs vts b 1 K 2 F F' a st (MSt.addI { st with next := st.next + k } b x) := by
  have hrep : kIns.rep w1 S x [.int .i64 x.op, .int .i64 x.dst, .int .i64 x.two, v, .int .i32 x.imm] := ⟨v, rfl, hargs⟩
  refine (add_calls h b hb hrep (fun k hk h2 => by have := hS k hk; have := hF k h2; omega) hSn (hr0.wider hx1 hS) hbl (fun y hy => by have := hs.2.2.2 y hy; omega) (by have := hs.2.2.1; show st.live.length ≤ _; omega)).mono ?_
  rintro e w2 ⟨rfl, F', h2, hx2, hf2⟩
  have hg : Grow b 1 st (MSt.addI { st with next := st.next + k } b x) := addI_grow hk hk2 hx ha hm hn rfl
  refine ⟨rfl, F', h2, hg, hs.grow hg (by have := hs.1; omega) (by omega), hx1.same hx2, fun y hy => ?_⟩
  have hsz := hx1.size
  rcases hf2 y hy with h3 | h3 | h3
  · exact .inl h3
  · exact .inr (hS y h3)
  · exact .inr (by omega)
theorem addI_mem {st : MSt} {k : Int} {b : Nat} {x : JIns} {v : Int} (h : v ∈ makesF x) : v ∈ (MSt.addI { st with next := st.next + k } b x).live := by simp [MSt.addI, h]
/-- a row of one's own of some numbers -/
theorem lit_ints {w : World} (l : List Int) (h0 : 0 < l.length) (h1 : l.length ≤ 100) : SlR kInt 3 (w.alloc (.cells (l.map (Value.int .i64)).toArray 3)) [w.heap.size] (.slice (some ⟨w.heap.size, 0, none⟩) l.length l.length) l := made_lit (by rintro rfl; simp at h0) (by omega)

/-- a step that hands back a value that is at hand then -/
def ValG (w : World) (q : Nat) (vs : Value) (vts : List Value) (b c K d : Nat) (F : List Nat) (st : MSt) (e : Ending) (w' : World) : Prop :=
  ∃ (v : Int) (a' : Nat) (F' : List Nat) (st' : MSt), e = .returned (.int .i64 v) ∧ v ∈ st'.live ∧ GP w w' q vs vts b c K d F F' a' st st'
theorem constE {w : World} {q : Nat} {vs : Value} {F : List Nat} {a K : Nat} {st : MSt} {vts : List Value} (h : MkE w q vs F a st vts) (hs : Sm K a st) (hK : K ≤ 900000) (b : Nat) (hb : b < st.blocks.length) (hbl : st.blocks.length ≤ 100000) (imm : Int) :
    Calls Try.prog 28 #[.pointer (some ⟨q, 0, none⟩), .int .i64 (b : Int), .int .i32 imm] w (ValG w q vs vts b 1 K 2 F st) := by
  refine (constG h hs hK b hb hbl imm).mono ?_
  rintro e w' ⟨a', F', rfl, g⟩
  exact ⟨_, a', F', _, rfl, addI_live, g⟩
/-- behind a number of its own: an instruction at a block's end -/
def NewG (w : World) (q : Nat) (vs : Value) (vts : List Value) (b K : Nat) (F : List Nat) (st : MSt) (vals : List Int) (e : Ending) (w' : World) : Prop :=
  e = .returned (.tuple #[]) ∧ ∃ (a' : Nat) (F' : List Nat) (st' : MSt), GP w w' q vs vts b 1 K 2 F F' a' st st' ∧ ∀ v ∈ vals, v ∈ st'.live
theorem addE {w w1 : World} {q : Nat} {vs : Value} {F : List Nat} {a K : Nat} {st : MSt} {vts : List Value} (k : Int) (h0 : MkE w q vs F a st vts) (hx1 : Ext F w w1) (h : MkE w1 q vs F a { st with next := st.next + k } vts) (hs : Sm K a st) (hK : K ≤ 900000) (hk : 0 ≤ k) (hk2 : k ≤ 2) (b : Nat) (hb : b < st.blocks.length) (hbl : st.blocks.length ≤ 100000)
    {S : List Nat} {v : Value} (x : JIns) (hargs : SlR kInt 3 w1 S v x.args) (hS : ∀ k ∈ S, w.heap.size ≤ k) (hSn : S.Nodup) (hx : insOk x) (ha : ∀ y ∈ x.args, y ∈ st.live) (hm : ∀ v ∈ makesF x, st.next ≤ v ∧ v < st.next + k) (hn : (makesF x).Nodup) :
    Calls Try.prog 44 #[.pointer (some ⟨q, 0, none⟩), .int .i64 (b : Int), .agg #[.int .i64 x.op, .int .i64 x.dst, .int .i64 x.two, v, .int .i32 x.imm]] w1 (NewG w q vs vts b K F st (makesF x)) := by
  refine (addG hx1 h0.lt h0.rd h hs hK hk hk2 b hb hbl x hargs hS hSn hx ha hm hn).mono ?_
  rintro e w' ⟨rfl, F', g⟩
  exact ⟨rfl, a, F', _, g, fun v hv => addI_mem hv⟩

def MemG (w : World) (q : Nat) (vs : Value) (vts : List Value) (b K : Nat) (F : List Nat) (st : MSt) (e : Ending) (w' : World) : Prop :=
  e = .returned (.tuple #[]) ∧ ∃ (a' : Nat) (F' : List Nat) (st' : MSt), GP w w' q vs vts b 8 K 100 F F' a' st st'
set_option maxRecDepth 20000 in
set_option maxHeartbeats 3200000 in
theorem memoryG {w : World} {q : Nat} {vs : Value} {F : List Nat} {a K : Nat} {st : MSt} {vts : List Value} (h : MkE w q vs F a st vts) (hs : Sm K a st) (hK : K ≤ 700000) (b : Nat) (hb : b < st.blocks.length) (hbl : st.blocks.length ≤ 100000) (store : Bool) :
    Calls Try.prog 45 #[.pointer (some ⟨q, 0, none⟩), .int .i64 (b : Int), .bool store] w (MemG w q vs vts b K F st) := by
  have Hs := Lib.hid hs
  clear hs
  go_enter Try.func45, Try.ntmps45
  go_wp2_with fail
  refine (takeG h Hs.out (by omega) b 9 (by omega) (by omega)).mono ?_
  rintro e w1 ⟨k1, a1, _, rfl, g1⟩
  go_wp2_with fail
  refine (constE g1.mm g1.sm (by omega) b hb hbl (k1 : Int)).mono ?_
  rintro e w2 ⟨v2, a2, F2, st2, rfl, hv2, g2⟩
  have G2 := g1.trans g2
  clear g1 g2
  have hb2 := G2.hb hb
  have hbl2 : st2.blocks.length ≤ 100000 := by rw [G2.gr.len]; exact hbl
  have HG2 := Lib.hid G2
  have Hv2 := Lib.hid hv2
  have m2 := G2.mm
  have s2 := Lib.hid G2.sm
  clear G2 hv2
  go_wp2_with fail
  refine (takeG m2 s2.out (by omega) b 3 (by omega) (by omega)).mono ?_
  rintro e w3 ⟨k3, a3, _, rfl, g3⟩
  have HG3 := Lib.hid (HG2.out.trans g3)
  have m3 := g3.mm
  have s3 := Lib.hid g3.sm
  clear g3 m2 s2 HG2
  by_cases hk0 : k3 = 0
  case' pos =>
    subst hk0
    go_wp2_with fail
    refine (someG m3 s3.out (by omega) b hb2 hbl2).mono ?_
    rintro e w4 ⟨v4, a4, F4, st4, rfl, hv4, g4⟩
    have hb4 := g4.hb hb2
    have hbl4 : st4.blocks.length ≤ 100000 := by rw [g4.gr.len]; exact hbl2
    have Hv2' := Lib.hid (g4.gr.live Hv2.out)
    have Hv4 := Lib.hid hv4
    have m4 := g4.mm
    have s4 := Lib.hid g4.sm
    have HG4 := Lib.hid (HG3.out.trans g4)
    clear g4 hv4 HG3 m3 s3 Hv2
    go_wp2_with fail
    refine (constE m4 s4.out (by omega) b hb4 hbl4 7).mono ?_
    rintro e w5 ⟨v5, a5, F5, st5, rfl, hv5, g5⟩
    have hb5 := g5.hb hb4
    have hbl5 : st5.blocks.length ≤ 100000 := by rw [g5.gr.len]; exact hbl4
    have Hv2 := Lib.hid (g5.gr.live Hv2'.out)
    have Hv4' := Lib.hid (g5.gr.live Hv4.out)
    have Hv5 := Lib.hid hv5
    have m5 := g5.mm
    have s5 := Lib.hid g5.sm
    have HG5 := Lib.hid (HG4.out.trans g5)
    have hnx := g5.sm.2.1
    clear g5 hv5 HG4 m4 s4 Hv2' Hv4
    go_wp2_with fail
    refine (fresh_calls m5 (by omega) (by omega)).mono ?_
    rintro e w6 ⟨rfl, m6, hx6⟩
    obtain ⟨d6, hd6⟩ : ∃ d, d = st5.next := ⟨_, rfl⟩
    rw [← hd6]
    have Hd6 := Lib.hid hd6
    clear hd6
    have hrow := lit_ints (w := w6) [v4, v5] (by simp) (by simp)
    have Hrow := Lib.hid hrow
    clear hrow
    go_wp2_with fail
    refine (addE 1 m5 (hx6.alloc _) (m6.ext0 ((Ext.refl _ _).alloc _)) s5.out (by omega) (by omega) (by omega) b hb5 hbl5 (S := [w6.heap.size]) ⟨5, d6, 0, [v4, v5], 0⟩ Hrow.out (by intro k hk; have := hx6.size; simp at hk; omega) (by simp) (by simp [insOk, opersF]) (by intro y hy; simp at hy; rcases hy with rfl | rfl; exact Hv4'.out; exact Hv5.out) (by intro v hv; simp [makesF] at hv; rw [hv, Hd6.out]; omega) (by simp [makesF])).mono ?_
    rintro e w7 ⟨rfl, a7, F7, st7, g7, hl7⟩
    have hb7 := g7.hb hb5
    have hbl7 : st7.blocks.length ≤ 100000 := by rw [g7.gr.len]; exact hbl5
    have Hd7 : Hid (d6 ∈ st7.live) := hl7 d6 (by simp [makesF])
    have Hv2' := Lib.hid (g7.gr.live Hv2.out)
    have m7 := g7.mm
    have s7 := Lib.hid g7.sm
    have HG7 := Lib.hid (HG5.out.trans g7)
    have hnx7 := g7.sm.2.1
    clear g7 hl7 HG5 m5 s5 Hv2 m6 Hrow hnx
    go_wp2_with fail
    refine (fresh_calls m7 (by omega) (by omega)).mono ?_
    rintro e w8 ⟨rfl, m8, hx8⟩
    obtain ⟨d8, hd8⟩ : ∃ d, d = st7.next := ⟨_, rfl⟩
    rw [← hd8]
    have Hd8 := Lib.hid hd8
    clear hd8
    have hrow := lit_ints (w := w8) [v2, d6] (by simp) (by simp)
    have Hrow := Lib.hid hrow
    clear hrow
    go_wp2_with fail
    refine (addE 1 m7 (hx8.alloc _) (m8.ext0 ((Ext.refl _ _).alloc _)) s7.out (by omega) (by omega) (by omega) b hb7 hbl7 (S := [w8.heap.size]) ⟨2, d8, 0, [v2, d6], 0⟩ Hrow.out (by intro k hk; have := hx8.size; simp at hk; omega) (by simp) (by simp [insOk, opersF]) (by intro y hy; simp at hy; rcases hy with rfl | rfl; exact Hv2'.out; exact Hd7.out) (by intro v hv; simp [makesF] at hv; rw [hv, Hd8.out]; omega) (by simp [makesF])).mono ?_
    rintro e w9 ⟨rfl, a9, F9, st9, g9, hl9⟩
    have hb9 := g9.hb hb7
    have hbl9 : st9.blocks.length ≤ 100000 := by rw [g9.gr.len]; exact hbl7
    obtain ⟨v9, hv9⟩ : ∃ v, v = d8 := ⟨_, rfl⟩
    have Hv9 : Hid (v9 ∈ st9.live) := by rw [hv9]; exact hl9 d8 (by simp [makesF])
    rw [← hv9]
    have m9 := g9.mm
    have HG9 : Hid (GP w w9 q vs vts b 5 K 24 F F9 a9 st st9) := (HG7.out.trans g9).mono (by omega) (by omega)
    clear g9 hl9 HG7 m7 s7 m8 Hrow hv9
    obtain ⟨wz, hz⟩ : ∃ x, x = w9 := ⟨_, rfl⟩
    subst hz
    obtain ⟨Fz, hz⟩ : ∃ x, x = F9 := ⟨_, rfl⟩
    subst hz
    obtain ⟨az, hz⟩ : ∃ x, x = a9 := ⟨_, rfl⟩
    subst hz
    obtain ⟨sz, hz⟩ : ∃ x, x = st9 := ⟨_, rfl⟩
    subst hz
    go_wp2_with fail
  case' neg =>
    have e0 : ((k3 : Int) == 0) = false := by simp; omega
    have hb9 := hb2
    have hbl9 := hbl2
    obtain ⟨v9, hv9⟩ : ∃ v, v = v2 := ⟨_, rfl⟩
    have Hv9 : Hid (v9 ∈ st2.live) := by rw [hv9]; exact Hv2.out
    rw [← hv9]
    have m9 := m3
    have HG9 : Hid (GP w w3 q vs vts b 5 K 24 F F2 a3 st st2) := HG3.out.mono (by omega) (by omega)
    clear m3 s3 HG3 hv9 Hv2
    obtain ⟨wz, hz⟩ : ∃ x, x = w3 := ⟨_, rfl⟩
    subst hz
    obtain ⟨Fz, hz⟩ : ∃ x, x = F2 := ⟨_, rfl⟩
    subst hz
    obtain ⟨az, hz⟩ : ∃ x, x = a3 := ⟨_, rfl⟩
    subst hz
    obtain ⟨sz, hz⟩ : ∃ x, x = st2 := ⟨_, rfl⟩
    subst hz
    go_wp2_with fail
  all_goals
    have sz9 := Lib.hid HG9.out.sm
    refine (takeG m9 sz9.out (by omega) b 4 (by omega) (by omega)).mono ?_
    rintro e w10 ⟨k10, a10, _, rfl, g10⟩
    have HG10 := Lib.hid (HG9.out.trans g10)
    have m10 := g10.mm
    have s10 := Lib.hid g10.sm
    clear g10 HG9 sz9
    go_wp2_with fail
    refine (takeG m10 s10.out (by omega) b 12 (by omega) (by omega)).mono ?_
    rintro e w11 ⟨k11, a11, _, rfl, g11⟩
    have HG11 := Lib.hid (HG10.out.trans g11)
    have m11 := g11.mm
    have s11 := Lib.hid g11.sm
    clear g11 HG10 m10 s10
    by_cases hk1 : k11 = 0
    case' pos =>
      subst hk1
      go_wp2_with fail
      refine (wordG m11 s11.out (by omega) b).mono ?_
      rintro e w12 ⟨imm, a12, rfl, g12⟩
      have HG12 : Hid (GP w w12 q vs vts b 5 K 28 F Fz a12 st sz) := (HG11.out.trans g12).mono (by omega) (by omega)
      have m12 := g12.mm
      clear g12 HG11 m11 s11
      obtain ⟨wy, hz⟩ : ∃ x, x = w12 := ⟨_, rfl⟩
      subst hz
      obtain ⟨ay, hz⟩ : ∃ x, x = a12 := ⟨_, rfl⟩
      subst hz
    case' neg =>
      have e1 : ((k11 : Int) == 0) = false := by simp; omega
      obtain ⟨imm, himm⟩ : ∃ x : Int, x = (k10 : Int) := ⟨_, rfl⟩
      have HG12 : Hid (GP w w11 q vs vts b 5 K 28 F Fz a11 st sz) := HG11.out.mono (by omega) (by omega)
      have m12 := m11
      clear HG11 m11 s11
      obtain ⟨wy, hz⟩ : ∃ x, x = w11 := ⟨_, rfl⟩
      subst hz
      obtain ⟨ay, hz⟩ : ∃ x, x = a11 := ⟨_, rfl⟩
      subst hz
      rw [← himm]
      have Himm := Lib.hid himm
      clear himm
    all_goals
      have s12 := Lib.hid HG12.out.sm
      cases store
      case' true =>
        go_wp2_with fail
        refine (someG m12 s12.out (by omega) b hb9 hbl9).mono ?_
        rintro e w13 ⟨v13, a13, F13, st13, rfl, hv13, g13⟩
        have hb13 := g13.hb hb9
        have hbl13 : st13.blocks.length ≤ 100000 := by rw [g13.gr.len]; exact hbl9
        have Hv9' := Lib.hid (g13.gr.live Hv9.out)
        have Hv13 := Lib.hid hv13
        have m13 := g13.mm
        have s13 := Lib.hid g13.sm
        have HG13 := Lib.hid (HG12.out.trans g13)
        clear g13 hv13 HG12 m12 s12
        have hrow := lit_ints (w := w13) [v9, v13] (by simp) (by simp)
        have Hrow := Lib.hid hrow
        clear hrow
        go_wp2_with fail
        refine (addE 0 m13 ((Ext.refl _ _).alloc _) (by simpa using m13.ext0 ((Ext.refl _ _).alloc _)) s13.out (by omega) (by omega) (by omega) b hb13 hbl13 (S := [w13.heap.size]) ⟨16, 0, 0, [v9, v13], imm⟩ Hrow.out (by simp) (by simp) (by simp [insOk, opersF]) (by intro y hy; simp at hy; rcases hy with rfl | rfl; exact Hv9'.out; exact Hv13.out) (by simp [makesF]) (by simp [makesF])).mono ?_
        rintro e w14 ⟨rfl, a14, F14, st14, g14, _⟩
        go_wp2
        go_end0
        exact ⟨rfl, a14, F14, st14, (HG13.out.trans g14).mono (by omega) (by omega)⟩
      case' false =>
        have hnx := s12.out.2.1
        go_wp2_with fail
        refine (fresh_calls m12 (by omega) (by omega)).mono ?_
        rintro e w13 ⟨rfl, m13, hx13⟩
        obtain ⟨d13, hd13⟩ : ∃ d, d = sz.next := ⟨_, rfl⟩
        rw [← hd13]
        have Hd13 := Lib.hid hd13
        have hrow := lit_ints (w := w13) [v9] (by simp) (by simp)
        have Hrow := Lib.hid hrow
        clear hrow hd13
        go_wp2_with fail
        refine (addE 1 m12 (hx13.alloc _) (m13.ext0 ((Ext.refl _ _).alloc _)) s12.out (by omega) (by omega) (by omega) b hb9 hbl9 (S := [w13.heap.size]) ⟨15, d13, 0, [v9], imm⟩ Hrow.out (by intro k hk; have := hx13.size; simp at hk; omega) (by simp) (by simp [insOk, opersF]) (by intro y hy; simp at hy; rw [hy]; exact Hv9.out) (by intro v hv; simp [makesF] at hv; rw [hv, Hd13.out]; omega) (by simp [makesF])).mono ?_
        rintro e w14 ⟨rfl, a14, F14, st14, g14, _⟩
        go_wp2
        go_end0
        exact ⟨rfl, a14, F14, st14, (HG12.out.trans g14).mono (by omega) (by omega)⟩
end Go.Proofs.Ytkmgbejhbkbaoaa
