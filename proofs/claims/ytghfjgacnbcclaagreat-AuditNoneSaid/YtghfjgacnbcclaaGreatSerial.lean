/- Statement AuditReads: Serial. -/
import Derived.Test.YtghfjgacnbcclaaGreatPlay
namespace Go.Proofs.YtghfjgacnbcclaaGreat
open Go.RowKit Go.Proofs.YtghfjgacnbcclaaGreatW.PrintWords

def playErr (cells : Int) (l : List ACommit) : Int := if 1 ≤ cells ∧ cells ≤ 16 then (playL (List.replicate cells.toNat Reg.z) [] l).2.2.2 else 1
def playNum (cells : Int) (l : List ACommit) : Nat := if 1 ≤ cells ∧ cells ≤ 16 then (playL (List.replicate cells.toNat Reg.z) [] l).2.2.1 else 0
def playRegs (cells : Int) (l : List ACommit) : List Reg := (playL (List.replicate cells.toNat Reg.z) [] l).1

def SerialPost (cells : Int) (l : List ACommit) (w : World) (e : Ending) (w' : World) : Prop :=
  Below w.heap.size w w' ∧ e = .returned (.tuple #[.int .i64 (playNum cells l : Nat), .int .i64 (playErr cells l)])
def FinalPost (cells : Int) (l : List ACommit) (w : World) (e : Ending) (w' : World) : Prop :=
  Below w.heap.size w w' ∧ ((playErr cells l ≠ 0 ∧ e = .returned (.tuple #[.slice none 0 0, .int .i64 (playErr cells l)])) ∨
    (playErr cells l = 0 ∧ ∃ bl, e = .returned (.tuple #[.slice (some ⟨bl, 0, none⟩) (playRegs cells l).length (playRegs cells l).length, .int .i64 0]) ∧ w'.heap[bl]? = some (.cells ((playRegs cells l).flatMap Reg.vals).toArray 114 (0, 0)) ∧ (playRegs cells l).length ≤ 16))

set_option maxHeartbeats 1000000 in
theorem serial_any (cells : Int) (A : Option Addr) (cap : Nat) (l : List ACommit) (w : World) (hr : kACommit.C w A l.length l) :
    Calls Tryz.prog 10 #[.int .i64 cells, .slice A l.length cap] w (SerialPost cells l w) := by
  have hcall := play_any cells A cap l w hr
  clear hr
  generalize l.length = m at hcall
  have HC := Lib.hid hcall
  clear hcall
  go_enter Tryz.func10, Tryz.ntmps10
  go_wp2_with (fail)
  refine HC.out.mono ?_
  rintro e w1 ⟨hb, ⟨h1, h2, br, bl, bm, rfl, hR⟩ | ⟨h1, rfl⟩⟩
  · go_wp2
    go_ret2
    exact ⟨hb, by unfold playNum playErr; rw [if_pos ⟨h1, h2⟩, if_pos ⟨h1, h2⟩]; rfl⟩
  · go_wp2
    go_ret2
    exact ⟨hb, by unfold playNum playErr; rw [if_neg h1, if_neg h1]; rfl⟩

end Go.Proofs.YtghfjgacnbcclaaGreat
