/-
  Function values: literals and their calls.
-/
import Derived.Test.YtlhlbiaibgmapaaZU
set_option linter.unusedSimpArgs false
set_option linter.unusedVariables false
namespace Go.W
section
variable {P : Program} {f : Fr} {w : World} {ty : TypeId} {κ : Value → World → Prop}
/-- a function literal -/
theorem oV_mkf {g : Nat} {caps : List Operand} (h : κ (.func (.func g) #[] (evl f caps).toArray) w) : opV P (.makeFunc (.func g) #[] caps.toArray) ty f w κ := by
  show rawV P (.makeFunc (.func g) #[] caps.toArray) ty f w κ
  intro T wa hw hT
  subst hw
  simp only [raw, execOp, Instr.makeFunc, run_bind, Sem.run, pure, upon]
  refine ⟨T, Kp.refl hT, ?_⟩
  have e : Array.map (ev f) caps.toArray = (evl f caps).toArray := by simp [evl]
  rw [e]
  simpa using h
/-- a call of a function value -/
theorem oV_clo {g t : Nat} {xs : List Operand} {ts : Array TypeId} {caps : Array Value} (hx : f t = .func (.func g) #[] caps) (hen : enters P g = true) (h : VRet P g ((evl f xs).toArray ++ caps) w κ) : opV P (.call ⟨.value (.tmp t), xs.toArray, ts⟩) ty f w κ := by
  show rawV P (.call ⟨.value (.tmp t), xs.toArray, ts⟩) ty f w κ
  intro T wa hw hT
  have e : Array.map (ev f) xs.toArray = (evl f xs).toArray := by simp [evl]
  have ei : ∀ args : Array Value, (invoke (.fn (.func g) caps) args).run P wa = .ok (.enter g (args ++ caps)) wa := by
    intro args
    simp [invoke, run_callFunc hen]
  have e1 : raw P (.call ⟨.value (.tmp t), xs.toArray, ts⟩) ty f wa (upV κ T wa) = Calls P g ((evl f xs).toArray ++ caps) wa fun e w'' => ∃ v, e = .returned v ∧ upV κ T wa v w'' := by
    simp only [raw, execOp, resolve, ev, hx, Deferred.ofValue, run_bind, Sem.run, pure, Array.empty_append, ei, upon]
    rw [show Array.map (ev f) xs.toArray = (evl f xs).toArray from e]
  rw [e1]
  rcases h with h | h
  · exact (h.2 T wa hw hT).2
  · have h1 := h T wa hw hT (((evl f xs).toArray ++ caps).map .const) #[] 0 (fun _ => undef) (by rw [Array.map_map]; exact (Array.map_congr_left (fun _ _ => rfl)).trans (Array.map_id _))
    have ea : (((evl f xs).toArray ++ caps).map Operand.const).map (ev fun _ => undef) = (evl f xs).toArray ++ caps := by rw [Array.map_map]; exact (Array.map_congr_left (fun _ _ => rfl)).trans (Array.map_id _)
    have e2 : ∀ args : Array Value, (invoke (.fn (.func g) #[]) args).run P wa = .ok (.enter g args) wa := by
      intro args
      simp [invoke, run_callFunc hen]
    simp only [raw, execOp, resolve, ev, Deferred.ofValue, run_bind, Sem.run, pure, Array.empty_append, e2, upon] at h1
    rwa [ea] at h1
end
end Go.W
