/- Statement AuditReads: Final, Serial, great, awake, and the law's own walk. -/
import Derived.Test.YtgaieeoifephdaaPlay
namespace Go.Proofs.Ytgaieeoifephdaa
open Go.RowKit Go.Proofs.YtgaieeoifephdaaW.PrintWords

def playErr (cells : Int) (l : List ACommit) : Int := if 1 ≤ cells ∧ cells ≤ 16 then (playL (List.replicate cells.toNat Reg.z) [] l).2.2.2 else 1
def playNum (cells : Int) (l : List ACommit) : Nat := if 1 ≤ cells ∧ cells ≤ 16 then (playL (List.replicate cells.toNat Reg.z) [] l).2.2.1 else 0
def playRegs (cells : Int) (l : List ACommit) : List Reg := (playL (List.replicate cells.toNat Reg.z) [] l).1

def SerialPost (cells : Int) (l : List ACommit) (w : World) (e : Ending) (w' : World) : Prop :=
  Below w.heap.size w w' ∧ e = .returned (.tuple #[.int .i64 (playNum cells l : Nat), .int .i64 (playErr cells l)])
def FinalPost (cells : Int) (l : List ACommit) (w : World) (e : Ending) (w' : World) : Prop :=
  Below w.heap.size w w' ∧ ((playErr cells l ≠ 0 ∧ e = .returned (.tuple #[.slice none 0 0, .int .i64 (playErr cells l)])) ∨
    (playErr cells l = 0 ∧ ∃ bl, e = .returned (.tuple #[.slice (some ⟨bl, 0, none⟩) (playRegs cells l).length (playRegs cells l).length, .int .i64 0]) ∧ w'.heap[bl]? = some (.cells ((playRegs cells l).flatMap Reg.vals).toArray 37 (0, 0)) ∧ (playRegs cells l).length ≤ 16))

set_option maxHeartbeats 1000000 in
theorem serial_any (cells : Int) (A : Option Addr) (cap : Nat) (l : List ACommit) (w : World) (hr : kACommit.C w A l.length l) :
    Calls Try.prog 12 #[.int .i64 cells, .slice A l.length cap] w (SerialPost cells l w) := by
  have hcall := play_any cells A cap l w hr
  clear hr
  generalize l.length = m at hcall
  have HC := Lib.hid hcall
  clear hcall
  go_enter Try.func12, Try.ntmps12
  go_wp2_with (fail)
  refine HC.out.mono ?_
  rintro e w1 ⟨hb, ⟨h1, h2, br, bl, bm, rfl, hR⟩ | ⟨h1, rfl⟩⟩
  · go_wp2
    go_ret2
    exact ⟨hb, by unfold playNum playErr; rw [if_pos ⟨h1, h2⟩, if_pos ⟨h1, h2⟩]; rfl⟩
  · go_wp2
    go_ret2
    exact ⟨hb, by unfold playNum playErr; rw [if_neg h1, if_neg h1]; rfl⟩

set_option maxHeartbeats 1000000 in
theorem final_any (cells : Int) (A : Option Addr) (cap : Nat) (l : List ACommit) (w : World) (hr : kACommit.C w A l.length l) :
    Calls Try.prog 11 #[.int .i64 cells, .slice A l.length cap] w (FinalPost cells l w) := by
  have hcall := play_any cells A cap l w hr
  clear hr
  generalize l.length = m at hcall
  have HC := Lib.hid hcall
  clear hcall
  go_enter Try.func11, Try.ntmps11
  go_wp2_with (fail)
  refine HC.out.mono ?_
  rintro e w1 ⟨hb, ⟨h1, h2, br, bl, bm, rfl, hR⟩ | ⟨h1, rfl⟩⟩
  · have hE : playErr cells l = (playL (List.replicate cells.toNat Reg.z) [] l).2.2.2 := by unfold playErr; rw [if_pos ⟨h1, h2⟩]
    have HR := Lib.hid hR
    have c0 := hR.c0
    clear hR
    have HE := Lib.hid hE
    by_cases he : (playL (List.replicate cells.toNat Reg.z) [] l).2.2.2 = 0
    · have hed : ((playL (List.replicate cells.toNat Reg.z) [] l).2.2.2 != 0) = false := by rw [bne_eq_false_iff_eq]; exact he
      have HE0 := Lib.hid he
      clear he hE
      go_wp2
      go_ret2
      exact ⟨hb, .inr ⟨HE.out.trans HE0.out, bl, rfl, HR.out.hl, HR.out.n2⟩⟩
    · have hed : ((playL (List.replicate cells.toNat Reg.z) [] l).2.2.2 != 0) = true := by rw [bne_iff_ne]; exact he
      have HE0 := Lib.hid he
      clear he hE
      go_wp2
      go_ret2
      refine ⟨hb, .inl ⟨by rw [HE.out]; exact HE0.out, ?_⟩⟩
      rw [HE.out]
      rfl
  · have hE : playErr cells l = 1 := by unfold playErr; rw [if_neg h1]
    have HE := Lib.hid hE
    clear hE
    go_wp2
    go_ret2
    exact ⟨hb, .inl ⟨by rw [HE.out]; decide, by rw [HE.out]; rfl⟩⟩

/-! ### great -/
def greatB (l : List ACommit) : Bool := decide (60 < l.length) || l.any fun c => decide (40 < c.items.length)
set_option maxHeartbeats 1000000 in
theorem great_any (A : Option Addr) (cap : Nat) (l : List ACommit) (w : World) (hr : kACommit.C w A l.length l) :
    Calls Try.prog 10 #[.slice A l.length cap] w fun e w' => e = .returned (.bool (greatB l)) ∧ Below w.heap.size w w' := by
  have hxl : l.length ≤ 9223372036854775807 := hr.2.1
  have HR := Lib.hid hr
  clear hr
  generalize hxn : l.length = m at hxl
  have HL := Lib.hid hxn
  clear hxn
  by_cases h60 : 60 < m
  · have h60z : (60 : Int) < (m : Int) := by omega
    go_enter Try.func10, Try.ntmps10
    go_wp2
    go_ret
    exact ⟨by unfold greatB; rw [HL.out, decide_eq_true h60]; rfl, Below.refl _ _⟩
  have h60z : ¬ (60 : Int) < (m : Int) := by omega
  have h60d : decide ((60 : Int) < (m : Int)) = false := decide_eq_false h60z
  go_enter Try.func10, Try.ntmps10
  go_wp2
  go_loopg [10] m (fun gg s10 wr => ∃ kk : Nat, kk ≤ m ∧ m - kk ≤ gg ∧ s10 = .int .i64 kk ∧ Aside (Below w.heap.size w wr) ∧ Aside (∀ j, j < kk → (l.getD j ACommit.z).items.length ≤ 40))
  case atStart => exact ⟨0, Nat.zero_le _, by omega, rfl, Below.refl _ _, fun j hj => absurd hj (Nat.not_lt_zero _)⟩
  case round =>
    obtain ⟨kk, hkk, hg, rfl, BR, AA⟩ := hrel
    by_cases hlt : kk < m
    · have hltz : (kk : Int) < (m : Int) := by omega
      obtain ⟨b, o, A3, c3, hA, hb, h0, h1, h2, h3, h4, hl3, hC⟩ := kACommit_at (Kd.C_below HR.out BR.out) kk (by show kk < l.length; rw [HL.out]; exact hlt)
      subst hA
      have hcl : (l.getD kk ACommit.z).items.length ≤ 9223372036854775807 := hC.2.1
      generalize hx : l.getD kk ACommit.z = c at h0 h1 h2 h3 h4 hl3 hC hcl
      have HX := Lib.hid hx
      clear hx hC
      go_wp2
      · have hcm : 40 < c.items.length := by first | assumption | omega
        go_ret
        refine ⟨?_, below_tr BR.out (below_alloc1 _ _)⟩
        have : greatB l = true := by
          unfold greatB
          rw [Bool.or_eq_true]
          refine .inr (List.any_eq_true.2 ⟨c, ?_, decide_eq_true hcm⟩)
          rw [← HX.out, List.getD_eq_getElem?_getD, List.getElem?_eq_getElem (by rw [HL.out]; exact hlt)]
          exact List.getElem_mem _
        rw [this]; rfl
      · have hcm : c.items.length ≤ 40 := by first | assumption | omega
        go_roundg (m - (kk + 1))
        case measure => omega
        case rel =>
          refine ⟨kk + 1, by omega, by omega, by go_num, (show Aside _ from below_tr BR.out (below_alloc1 _ _)), (show Aside _ from fun j hj => ?_)⟩
          by_cases e : j = kk
          · subst e; rw [HX.out]; exact hcm
          · exact AA.out j (by omega)
    · have hltz : ¬ (kk : Int) < (m : Int) := by omega
      have : kk = m := by omega
      subst this
      go_wp2
      go_ret
      refine ⟨?_, BR.out⟩
      have : greatB l = false := by
        unfold greatB
        rw [Bool.or_eq_false_iff]
        refine ⟨decide_eq_false (by rw [HL.out]; exact h60), List.any_eq_false.2 fun c hc => ?_⟩
        obtain ⟨j, hj, rfl⟩ := List.mem_iff_getElem.1 hc
        have := AA.out j (by rw [← HL.out]; exact hj)
        rw [List.getD_eq_getElem?_getD, List.getElem?_eq_getElem hj] at this
        simpa using this
      rw [this]; rfl

end Go.Proofs.Ytgaieeoifephdaa
