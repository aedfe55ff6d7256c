/-
  The laws' next.
-/
import Derived.Test.YtlhlbiaibgmapaaZGA4
set_option linter.unusedSimpArgs false
set_option linter.unusedVariables false
namespace Go.Proofs.Ytlhlbiaibgmapaa
open Go.W Go.RowKit
abbrev rowV (u : Value) : List Value := [u]
theorem intss_of {w : World} {base : Nat} {v : Value} {us : List Value} {L : List (List Int)} (ho : OwnL rowV base 36 1 w v us) (hl : us.length = L.length) (h : ∀ (j : Nat) u l, us[j]? = some u → L[j]? = some l → IntsAt w u l) : IntssAt w v L := by
  have hs := ho.sl (fun _ => rfl)
  rcases hs with ⟨h1, h2⟩ | ⟨b, off, cap, h1, h2⟩
  · left
    refine ⟨h1, ?_⟩
    have : us = [] := by simpa using h2
    rw [this] at hl
    exact List.length_eq_zero_iff.1 hl.symm
  · refine .inr ⟨b, off, cap, by rw [h1, List.length_map, hl], fun i l hi => ?_⟩
    have hil := (List.getElem?_eq_some_iff.1 hi).1
    have hu : us[i]? = some (us[i]'(by omega)) := by simp
    have h3 := h2 i [us[i]'(by omega)] (by rw [List.getElem?_map, hu]; rfl)
    rw [Nat.mul_one] at h3
    obtain ⟨cs, e, fz, h4, h5, h6⟩ := rd_obj h3
    refine ⟨us[i]'(by omega), ?_, h i _ l hu hi⟩
    rw [cell_mk, h4]
    have h7 := congrArg (fun a : Array Value => a[0]?) h6
    simp only [Array.getElem?_extract] at h7
    rw [if_pos (by omega)] at h7
    simpa using h7

end Go.Proofs.Ytlhlbiaibgmapaa
