/- Statement AuditReads, the plain law: commits that only read, left out, leave the others serial, with the same registers. -/
import Derived.Test.YtgaieeoifephdaaReads
namespace Go.Proofs.Ytgaieeoifephdaa
open Go.RowKit Go.Proofs.YtgaieeoifephdaaW.PrintWords

def wrt (c : ACommit) : Bool := c.items.any fun x => x.write
theorem doRegs_reads : ∀ (xs : List Item) (rs : List Reg), (xs.any fun x => x.write) = false → doRegs rs xs = rs
  | [], _, _ => rfl
  | x :: xs, rs, h => by
    rw [List.any_cons, Bool.or_eq_false_iff] at h
    show doRegs (setReg rs x) xs = rs
    have : setReg rs x = rs := by unfold setReg; rw [h.1]; rfl
    rw [this]
    exact doRegs_reads xs rs h.2
theorem mayE_mono {rs : List Reg} {seen seen' : List Tid} {c : ACommit} (hs : ∀ t, t ∈ seen' → t ∈ seen) (h : mayE rs seen c = 0) : mayE rs seen' c = 0 := by
  unfold mayE at h ⊢
  split at h
  · cases h
  rename_i h1
  rw [if_neg h1]
  split at h
  · cases h
  rename_i h2
  rw [if_neg h2]
  split at h
  · cases h
  rename_i h3
  rw [if_neg (fun h4 => h3 (hs _ h4))]
  exact h
theorem playL_reads : ∀ (l : List ACommit) (rs : List Reg) (seen seen' : List Tid), (∀ t, t ∈ seen' → t ∈ seen) → (playL rs seen l).2.2.2 = 0 →
    (playL rs seen' (l.filter wrt)).2.2.2 = 0 ∧ (playL rs seen' (l.filter wrt)).2.2.1 = (l.filter wrt).length ∧ (playL rs seen' (l.filter wrt)).1 = (playL rs seen l).1
  | [], rs, seen, seen', _, _ => ⟨rfl, rfl, rfl⟩
  | c :: l, rs, seen, seen', hs, h => by
    unfold playL at h
    by_cases h0 : mayE rs seen c = 0
    · rw [if_pos h0] at h
      have hl : (playL rs seen (c :: l)).1 = (playL (doRegs rs c.items) (seen ++ [c.tid]) l).1 := by
        conv => lhs; unfold playL
        rw [if_pos h0]
      rw [hl]
      cases hw : wrt c with
      | false =>
        rw [List.filter_cons, hw]
        have hd : doRegs rs c.items = rs := doRegs_reads _ _ hw
        rw [hd] at h ⊢
        exact playL_reads l rs (seen ++ [c.tid]) seen' (fun t ht => List.mem_append_left _ (hs t ht)) h
      | true =>
        rw [List.filter_cons, hw]
        simp only [if_true]
        have h0' := mayE_mono hs h0
        have ih := playL_reads l (doRegs rs c.items) (seen ++ [c.tid]) (seen' ++ [c.tid]) (fun t ht => by
          rcases List.mem_append.1 ht with h1 | h1
          · exact List.mem_append_left _ (hs t h1)
          · exact List.mem_append_right _ h1) h
        refine ⟨?_, ?_, ?_⟩
        · conv => lhs; unfold playL
          rw [if_pos h0']; exact ih.1
        · conv => lhs; unfold playL
          rw [if_pos h0', List.length_cons]; simp only; rw [ih.2.1]
        · conv => lhs; unfold playL
          rw [if_pos h0']; exact ih.2.2
    · rw [if_neg h0] at h
      exact absurd h h0

theorem reads_law (cells : Int) (l : List ACommit) (h : playErr cells l = 0) : playErr cells (l.filter wrt) = 0 ∧ playNum cells (l.filter wrt) = (l.filter wrt).length ∧ playRegs cells (l.filter wrt) = playRegs cells l := by
  unfold playErr at h
  split at h
  · rename_i hc
    have := playL_reads l (List.replicate cells.toNat Reg.z) [] [] (fun _ h => h) h
    unfold playErr playNum playRegs
    rw [if_pos hc, if_pos hc]
    exact this
  · cases h
end Go.Proofs.Ytgaieeoifephdaa
