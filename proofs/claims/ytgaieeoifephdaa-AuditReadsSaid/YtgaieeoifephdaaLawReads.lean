/- Statement AuditReads: the law's own walk. -/
import Derived.Test.YtgaieeoifephdaaPureReads
import Derived.Test.YtgaieeoifephdaaAwake
namespace Go.Proofs.Ytgaieeoifephdaa
open Go.RowKit Go.Proofs.YtgaieeoifephdaaW.PrintWords
attribute [local go_sem high] eqA_tid eqA_reg

theorem info_acommit : (Try.prog.info? 33).map (fun i => (i.zero, i.size, i.bytes)) = some (some (.agg #[.int .i64 0, .int .i64 0, .int .i64 0, .slice none 0 0, .int .i64 0]), 5, 56) := by kernel_rfl
theorem take_filter (l : List ACommit) (k : Nat) (h : k < l.length) : (l.take (k + 1)).filter wrt = (l.take k).filter wrt ++ if wrt (l.getD k ACommit.z) = true then [l.getD k ACommit.z] else [] := by
  rw [List.take_succ_eq_append_getElem h, List.filter_append, List.getD_eq_getElem?_getD, List.getElem?_eq_getElem h]
  congr 1
  simp only [List.filter_cons, List.filter_nil]
  rfl
theorem any_take (xs : List Item) (k : Nat) (h : k < xs.length) : ((xs.take (k + 1)).any fun x => x.write) = (((xs.take k).any fun x => x.write) || (xs.getD k Item.z).write) := by
  rw [List.take_succ_eq_append_getElem h, List.any_append, List.getD_eq_getElem?_getD, List.getElem?_eq_getElem h]
  simp

set_option maxHeartbeats 8000000 in
set_option maxRecDepth 100000 in
theorem auditReads_walk (cells : Int) (A : Option Addr) (cap : Nat) (l : List ACommit) (w : World) (hr : kACommit.C w A l.length l) :
    Calls Try.prog 3 #[.int .i64 cells, .slice A l.length cap] w fun e w' => e = .returned (.bool true) ∧ Below w.heap.size w w' := by
  have hxl : l.length ≤ 9223372036854775807 := hr.2.1
  have HR := Lib.hid hr
  have hgr := fun W (hW : Below w.heap.size w W) => great_any A cap l W (Kd.C_below hr hW)
  have hfi := fun W (hW : Below w.heap.size w W) => final_any cells A cap l W (Kd.C_below hr hW)
  have HG := Lib.hid hgr
  have HF := Lib.hid hfi
  clear hr hgr hfi
  have hlw := reads_law cells l
  have HLW := Lib.hid hlw
  clear hlw
  have hg60 : greatB l = false → l.length ≤ 60 := fun h => by
    unfold greatB at h
    rw [Bool.or_eq_false_iff] at h
    have := h.1
    simp at this
    exact this
  have HG60 := Lib.hid hg60
  clear hg60
  generalize hxn : l.length = n at hxl
  have HL := Lib.hid hxn
  clear hxn
  have HG' : Hid (∀ W, Below w.heap.size w W → Calls Try.prog 10 #[.slice A n cap] W fun e w' => e = .returned (.bool (greatB l)) ∧ Below W.heap.size W w') := by
    intro W hW; have := HG.out W hW; rwa [HL.out] at this
  have HF' : Hid (∀ W, Below w.heap.size w W → Calls Try.prog 11 #[.int .i64 cells, .slice A n cap] W (FinalPost cells l W)) := by
    intro W hW; have := HF.out W hW; rwa [HL.out] at this
  clear HG HF
  go_enter Try.func3, Try.ntmps3
  go_wp2_with (fail)
  refine (awake27_any w).mono ?_
  rintro e w1 ⟨rfl, bw1⟩
  go_wp2_with (fail)
  refine (HG'.out w1 bw1).mono ?_
  rintro e w2 ⟨rfl, bw2⟩
  cases hgB : greatB l with
  | true =>
    go_wp2
    go_ret
    exact ⟨rfl, below_tr bw1 bw2⟩
  | false =>
  have h60 : n ≤ 60 := by have := HG60.out hgB; rwa [HL.out] at this
  go_wp2_with (fail)
  refine (HF'.out w2 (below_tr bw1 bw2)).mono ?_
  rintro e w3 ⟨bw3, ⟨he, rfl⟩ | ⟨he, bl, rfl, hbk, hlen⟩⟩
  · have hed : (playErr cells l != 0) = true := by rw [bne_iff_ne]; exact he
    have HE := Lib.hid he
    clear he
    go_wp2
    go_ret
    exact ⟨rfl, below_tr (below_tr bw1 bw2) bw3⟩
  obtain ⟨lw1, lw2, lw3⟩ := HLW.out he
  have L1 := Lib.hid lw1
  have L2 := Lib.hid lw2
  have L3 := Lib.hid lw3
  clear lw1 lw2 lw3
  have HE := Lib.hid he
  clear he
  have b03 : Aside (Below w.heap.size w w3) := below_tr (below_tr bw1 bw2) bw3
  have HBK := Lib.hid hbk
  clear hbk bw1 bw2 bw3
  generalize hrn : (playRegs cells l).length = N at hlen
  have HRN := Lib.hid hrn
  clear hrn
  go_wp2
  go_loopg [7, 32] n (fun gg v7 s32 wr => ∃ kk : Nat, kk ≤ n ∧ n - kk ≤ gg ∧ s32 = .int .i64 kk ∧ Aside (Below w3.heap.size w3 wr) ∧ Aside (OwnRow (kACommit.K w) 33 5 wr w3.heap.size v7 ((l.take kk).filter wrt)))
  case atStart => exact ⟨0, Nat.zero_le _, by omega, rfl, Below.refl _ _, OwnRow.none_ _ _ _ _ _⟩
  case round =>
    obtain ⟨kk, hkk, hg, rfl, BR, OR⟩ := hrel
    by_cases hlt : kk < n
    · have hltz : (kk : Int) < (n : Int) := by omega
      obtain ⟨b, o, A3, c3, hA, hb, h0, h1, h2, h3, h4, hl3, hC⟩ := kACommit_at HR.out kk (by show kk < l.length; rw [HL.out]; exact hlt)
      subst hA
      have B0r : Aside (Below w.heap.size w wr) := below_tr b03.out BR.out
      have zr : w.heap.size ≤ wr.heap.size := B0r.out.size
      have hbr : b < wr.heap.size := by omega
      have HK : Aside (kACommit.K w (l.getD kk ACommit.z) [.int .i64 (l.getD kk ACommit.z).tid.node, .int .i64 (l.getD kk ACommit.z).tid.epoch, .int .i64 (l.getD kk ACommit.z).tid.seq, .slice A3 (l.getD kk ACommit.z).items.length c3, .int .i64 (l.getD kk ACommit.z).at_]) := kACommit_mk w _ hl3 hC
      have HTF := Lib.hid (take_filter l kk (by rw [HL.out]; exact hlt))
      replace h0 := (B0r.out.cell (p := ⟨b, o + kk * 5, none⟩) hb).trans h0
      replace h1 := (B0r.out.cell (p := ⟨b, o + kk * 5 + 1, none⟩) hb).trans h1
      replace h2 := (B0r.out.cell (p := ⟨b, o + kk * 5 + 2, none⟩) hb).trans h2
      replace h3 := (B0r.out.cell (p := ⟨b, o + kk * 5 + 3, none⟩) hb).trans h3
      replace h4 := (B0r.out.cell (p := ⟨b, o + kk * 5 + 4, none⟩) hb).trans h4
      have hcl : (l.getD kk ACommit.z).items.length ≤ 9223372036854775807 := hC.2.1
      generalize hx : l.getD kk ACommit.z = c at h0 h1 h2 h3 h4 hl3 hC HK HTF hcl
      clear hx
      have HC := Lib.hid hC
      clear hC
      generalize hcn : c.items.length = cn at h3 hcl
      have HCN := Lib.hid hcn
      clear hcn
      go_wp2
      -- the inner loop, from a world under one name
      refine wp_gen fun w4 hw4 => ?_
      have b4 : Below wr.heap.size wr w4 := by rw [hw4.out]; exact below_alloc1 _ _
      have q0 : w4.cell? ⟨wr.heap.size, 0, none⟩ = some (.int .i64 c.tid.node) := by rw [hw4.out]; simp
      have q1 : w4.cell? ⟨wr.heap.size, 1, none⟩ = some (.int .i64 c.tid.epoch) := by rw [hw4.out]; simp
      have q2 : w4.cell? ⟨wr.heap.size, 2, none⟩ = some (.int .i64 c.tid.seq) := by rw [hw4.out]; simp
      have q3 : w4.cell? ⟨wr.heap.size, 3, none⟩ = some (.slice A3 cn c3) := by rw [hw4.out]; simp
      have q4 : w4.cell? ⟨wr.heap.size, 4, none⟩ = some (.int .i64 c.at_) := by rw [hw4.out]; simp
      have z4 : wr.heap.size < w4.heap.size := by rw [hw4.out]; simp
      have B04 : Aside (Below w.heap.size w w4) := below_tr B0r.out b4
      clear h0 h1 h2 h3 h4
      obtain ⟨wo, hwo⟩ : ∃ wo : World, wo = wr := ⟨_, rfl⟩
      subst hwo
      go_loopg [10, 39] cn (fun gi s10 s39 wi => ∃ jj : Nat, jj ≤ cn ∧ cn - jj ≤ gi ∧ s39 = .int .i64 jj ∧ s10 = .bool ((c.items.take jj).any fun x => x.write) ∧ Aside (Below w4.heap.size w4 wi))
      case atStart => exact ⟨0, Nat.zero_le _, by omega, rfl, by simp, Below.refl _ _⟩
      case round =>
        obtain ⟨jj, hjj, hgi, rfl, rfl, BI⟩ := hrel
        by_cases hjt : jj < cn
        · have hjz : (jj : Int) < (cn : Int) := by omega
          obtain ⟨b5, o5, hA5, hb5, g0, g1, g2, g3, g4⟩ := kItem_at (Kd.C_below HC.out (below_tr B04.out BI.out)) jj (by rw [HCN.out]; exact hjt)
          subst hA5
          have HANY := Lib.hid (any_take c.items jj (by rw [HCN.out]; exact hjt))
          generalize hy : c.items.getD jj Item.z = y at g0 g1 g2 g3 g4 HANY
          clear hy
          generalize hbb : ((c.items.take jj).any fun x => x.write) = bb at HANY
          have HBB := Lib.hid hbb
          clear hbb
          cases bb
          all_goals
            go_wp2
            go_roundg (cn - (jj + 1))
            case measure => omega
            case rel =>
              refine ⟨jj + 1, by omega, by omega, by go_num, ?_, (show Aside _ from below_tr BI.out (below_alloc1 _ _))⟩
              rw [HANY.out]
              simp
        · have hjz : ¬ (jj : Int) < (cn : Int) := by omega
          have : jj = cn := by omega
          subst this
          have hful : ((c.items.take jj).any fun x => x.write) = wrt c := by rw [List.take_of_length_le (by rw [HCN.out]; omega)]; rfl
          rw [hful]
          clear hful
          cases hwc : wrt c with
          | false =>
            go_wp2
            go_roundg (n - (kk + 1))
            case measure => omega
            case rel =>
              refine ⟨kk + 1, by omega, by omega, by go_num, (show Aside _ from below_tr (below_tr BR.out b4) BI.out), (show Aside _ from ?_)⟩
              rw [HTF.out, hwc]
              simp only [Bool.false_eq_true, if_false, List.append_nil]
              exact (OR.out.below b4).below BI.out
          | true =>
            obtain ⟨ci, fi⟩ := bcell BI.out
            have OR2 : Aside (OwnRow (kACommit.K w) 33 5 wr w3.heap.size u7 ((l.take kk).filter wrt)) := (OR.out.below b4).below BI.out
            have B3i : Aside (Below w3.heap.size w3 wr) := below_tr (below_tr BR.out b4) BI.out
            have hm60 : ((l.take kk).filter wrt).length ≤ 60 := Nat.le_trans (List.length_filter_le _ _) (by rw [List.length_take]; omega)
            rw [HCN.out] at HK
            go_wp2_with ((at_builtin; refine OwnRow.append (w0 := w3) w3.heap.size rfl _ _ 22 33 _ 5 56 rfl Try.underlying22 info_acommit rfl (by decide) (by decide) u7 _ c _ rfl rfl HK.out rfl (kACommit.K_one HK.out) OR2.out B3i.out B3i.out.size (by omega) ?_; intro v1 wx hO hB hg hat))
            have HO := Lib.hid hO
            have HB := Lib.hid hB
            clear hO hB hg hat
            go_wp2
            go_roundg (n - (kk + 1))
            case measure => omega
            case rel =>
              refine ⟨kk + 1, by omega, by omega, by go_num, HB.out, (show Aside _ from ?_)⟩
              rw [HTF.out, hwc]
              exact HO.out
    · have hltz : ¬ (kk : Int) < (n : Int) := by omega
      have : kk = n := by omega
      subst this
      have OR2 := OR.out
      rw [List.take_of_length_le (by rw [HL.out]; omega)] at OR2
      obtain ⟨A7, c7, hu7, hle7, hrd⟩ := OR2.reads
      subst hu7
      have hC7 : kACommit.C wr A7 (l.filter wrt).length (l.filter wrt) := hrd.imp_ (Below.refl _ _) (fun _ _ hp => kACommit.K_below (below_tr b03.out BR.out) hp)
      have hF7 := final_any cells A7 c7 (l.filter wrt) wr hC7
      have hS7 := fun W (hW : Below wr.heap.size wr W) => serial_any cells A7 c7 (l.filter wrt) W (Kd.C_below hC7 hW)
      have hml : (l.filter wrt).length ≤ 60 := Nat.le_trans (List.length_filter_le _ _) (by rw [HL.out]; exact h60)
      have HF7 := Lib.hid hF7
      have HS7 := Lib.hid hS7
      clear OR2 hrd hC7 hF7 hS7 hle7
      generalize hmn : (l.filter wrt).length = m at hml
      have HM := Lib.hid hmn
      clear hmn
      have HF8 : Hid (Calls Try.prog 11 #[.int .i64 cells, .slice A7 m c7] wr (FinalPost cells (l.filter wrt) wr)) := by have := HF7.out; rwa [HM.out] at this
      have HS8 : Hid (∀ W, Below wr.heap.size wr W → Calls Try.prog 12 #[.int .i64 cells, .slice A7 m c7] W (SerialPost cells (l.filter wrt) W)) := by intro W hW; have := HS7.out W hW; rwa [HM.out] at this
      clear HF7 HS7
      go_wp2_with (fail)
      refine HF8.out.mono ?_
      rintro e w8 ⟨bw8, ⟨he8, _⟩ | ⟨_, bl2, rfl, hbk2, _⟩⟩
      · exact absurd L1.out he8
      rw [L3.out] at hbk2
      rw [L3.out, HRN.out]
      have hbk1 : w8.heap[bl]? = _ := (bw8.block bl (by have := BR.out.size; have := lt_of_heap HBK.out; omega)).trans ((BR.out.block bl (lt_of_heap HBK.out)).trans HBK.out)
      have k1 : ∀ j, j < N → w8.cell? ⟨bl, j * 2, none⟩ = some (.int .i64 ((playRegs cells l).getD j Reg.z).version) ∧ w8.cell? ⟨bl, j * 2 + 1, none⟩ = some (.int .i64 ((playRegs cells l).getD j Reg.z).value) := fun j hj => by
        have := flat2 (playRegs cells l) j (by rw [HRN.out]; exact hj)
        exact ⟨cell_of_heap hbk1 (by simpa using this.1), cell_of_heap hbk1 (by simpa using this.2)⟩
      have k2 : ∀ j, j < N → w8.cell? ⟨bl2, j * 2, none⟩ = some (.int .i64 ((playRegs cells l).getD j Reg.z).version) ∧ w8.cell? ⟨bl2, j * 2 + 1, none⟩ = some (.int .i64 ((playRegs cells l).getD j Reg.z).value) := fun j hj => by
        have := flat2 (playRegs cells l) j (by rw [HRN.out]; exact hj)
        exact ⟨cell_of_heap hbk2 (by simpa using this.1), cell_of_heap hbk2 (by simpa using this.2)⟩
      have hlt1 : bl < w8.heap.size := lt_of_heap hbk1
      have hlt2 : bl2 < w8.heap.size := lt_of_heap hbk2
      have K1 := Lib.hid k1
      have K2 := Lib.hid k2
      have b08 : Aside (Below w.heap.size w w8) := below_tr (below_tr b03.out BR.out) bw8
      have br8 : Aside (Below wr.heap.size wr w8) := bw8
      obtain ⟨wo, hwo⟩ : ∃ wo : World, wo = wr := ⟨_, rfl⟩
      subst hwo
      clear hbk1 hbk2 k1 k2 bw8
      go_wp2
      go_loopg [63] N (fun gg s63 wq => ∃ j : Nat, j ≤ N ∧ N - j ≤ gg ∧ s63 = .int .i64 j ∧ Aside (Below w8.heap.size w8 wq))
      case atStart => exact ⟨0, Nat.zero_le _, by omega, rfl, Below.refl _ _⟩
      case round =>
        obtain ⟨j, hj, hgj, rfl, BQ⟩ := hrel
        by_cases hjt : j < N
        · have hjz : (j : Int) < (N : Int) := by omega
          have hjd : decide ((N : Int) ≤ (j : Int)) = false := decide_eq_false (by omega)
          have hjd2 : decide (N ≤ j) = false := decide_eq_false (by omega)
          have e1 := K1.out j hjt
          have e2 := K2.out j hjt
          generalize (playRegs cells l).getD j Reg.z = r at e1 e2
          have g1 := (BQ.out.cell (p := ⟨bl, j * 2, none⟩) hlt1).trans e1.1
          have g2 := (BQ.out.cell (p := ⟨bl, j * 2 + 1, none⟩) hlt1).trans e1.2
          have g3 := (BQ.out.cell (p := ⟨bl2, j * 2, none⟩) hlt2).trans e2.1
          have g4 := (BQ.out.cell (p := ⟨bl2, j * 2 + 1, none⟩) hlt2).trans e2.2
          have zq1 : bl < wr.heap.size := by have := BQ.out.size; omega
          have zq2 : bl2 < wr.heap.size := by have := BQ.out.size; omega
          clear e1 e2
          go_wp2
          refine wp_region_bel (by kernel_rfl) (by kernel_rfl) (fun w9 hw9 => ?_)
          have b9 : Below wr.heap.size wr w9 := by rw [hw9.out]; exact Below.refl _ _
          have y1 : bl < w9.heap.size := by rw [hw9.out]; exact zq1
          have y2 : bl2 < w9.heap.size := by rw [hw9.out]; exact zq2
          rw [← hw9.out] at g1 g2 g3 g4
          repeat (first
            | (apply belSteps_plain
               · rfl
               · intro W hW
                 obtain ⟨hc, hf⟩ := bcell hW
                 go_simp
                 first
                   | exact rfl
                   | exact ⟨rfl, hW⟩
               simp only [Act.put, List.setIfInBounds_toArray, List.set_cons_zero, List.set_cons_succ])
            | ((first | (apply belSteps_no; rfl; rfl; rfl) | (apply belSteps_never; rfl; rfl; rfl))
               simp only [Act.put, List.setIfInBounds_toArray, List.set_cons_zero, List.set_cons_succ])
            | (apply belSteps_yes
               · rfl
               · rfl
               · rfl
               · intro W hW
                 obtain ⟨hc, hf⟩ := bcell hW
                 go_simp
                 first
                   | exact rfl
                   | exact ⟨rfl, hW⟩
               simp only [Act.put, List.setIfInBounds_toArray, List.set_cons_zero, List.set_cons_succ]))
          refine belSteps_nil ⟨rfl, fun W hW => ?_⟩
          go_wp2
          go_roundg (N - (j + 1))
          case measure => omega
          case rel => exact ⟨j + 1, by omega, by omega, by go_num, (show Aside _ from below_tr (below_tr BQ.out b9) hW)⟩
        · have hjz : ¬ (j : Int) < (N : Int) := by omega
          have : j = N := by omega
          subst this
          go_wp2_with (fail)
          refine (HS8.out wr (below_tr br8.out BQ.out)).mono ?_
          rintro e wz ⟨bwz, rfl⟩
          rw [L1.out, L2.out, HM.out]
          go_wp2
          go_ret
          exact ⟨rfl, below_tr (below_tr b08.out BQ.out) bwz⟩

end Go.Proofs.Ytgaieeoifephdaa
