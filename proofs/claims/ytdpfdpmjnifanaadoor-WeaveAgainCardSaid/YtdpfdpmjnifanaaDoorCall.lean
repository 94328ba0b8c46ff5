/- A call by what is known of it. Over any program. -/
import Derived.Test.YtdpfdpmjnifanaaDoorOwn
namespace Go.Sb
open Go Go.RowKit
set_option linter.unusedSimpArgs false
set_option linter.unusedVariables false

def Callable (P : Program) (k : Nat) : Prop := ∃ fn, P.funcs[k]? = some fn ∧ (fn.name == "runtime.NumGoroutine") = false ∧ fn.body.isNone = false
def evAll (E : En) : List Operand → Option (List Value)
  | [] => some []
  | x :: l => match evE E x, evAll E l with
    | some v, some vs => some (v :: vs)
    | _, _ => none
theorem evAll_map {N : Nat} {E : En} {a : Act} (he : Env N a E) : ∀ {l : List Operand} {vs : List Value}, evAll E l = some vs → l.map a.eval = vs
  | [], vs, h => by simp only [evAll, Option.some.injEq] at h; subst h; rfl
  | x :: l, vs, h => by
    simp only [evAll] at h
    cases h1 : evE E x with
    | none => rw [h1] at h; cases h
    | some v =>
      cases h2 : evAll E l with
      | none => rw [h1, h2] at h; cases h
      | some us =>
        rw [h1, h2] at h
        simp only [Option.some.injEq] at h
        subst h
        simp [he.eval h1, evAll_map he h2]
variable {P : Program} {N : Nat} {E : En} {C D : World → Prop} {Q : Exit → Act → World → Prop} {ops : Array Oper} {rest : List Oper}
theorem run_call {k : Nat} {a : Act} {w : World} {d : Option Tmp} {args : List Operand} {vs : List Value} {at_ : Array TypeId} {ty : TypeId} {pos : String} {aft : Array Edge} {g : Option (Nat × Bool)}
    (hk : Callable P k) (he : Env N a E) (hargs : evAll E args = some vs) : (execOp a.eval ⟨d, .call ⟨.value (.func k), args.toArray, at_⟩, ty, pos, aft, g⟩).run P w = .ok (.enter k vs.toArray) w := by
  obtain ⟨fn, h1, h2, h3⟩ := hk
  have hm := evAll_map he hargs
  have hf : a.eval (.func k) = .func (.func k) #[] #[] := rfl
  simp only [execOp, resolve, hf]
  have h2' : ¬ (fn.name = "runtime.NumGoroutine") := by simpa using h2
  have h3' : ¬ (fn.body = none) := by intro e; rw [e] at h3; cases h3
  simp [Deferred.ofValue, invoke, callFunc, h1, h2', h3', hm]
theorem J.callD {d : Option Tmp} {k : Nat} {args : List Operand} {vs : List Value} {at_ : Array TypeId} {ty : TypeId} {pos : String} {aft : Array Edge} {g : Option (Nat × Bool)} {R : Value → World → Prop}
    (hk : Callable P k) (hargs : evAll E args = some vs) (hs : ∀ w, C w → Calls P k vs.toArray w (Ret R)) (hw : want ops E ⟨d, .call ⟨.value (.func k), args.toArray, at_⟩, ty, pos, aft, g⟩ = some true) (hd : dstOk N d = true)
    (kk : ∀ v, J N (putE E d v) (R v) (wpList P ops Q rest)) : J N E C (wpList P ops Q (⟨d, .call ⟨.value (.func k), args.toArray, at_⟩, ty, pos, aft, g⟩ :: rest)) := fun a w he hC =>
  wpList_step fun K hK => by
    rw [want_wanted he hw]
    simp only [if_true, Oper.wp, run_call hk he hargs, Oper.upon]
    exact (hs w hC).mono fun e w' ⟨v, h1, h2⟩ => by subst h1; exact hK _ _ (kk v _ w' (he.put (dstOk_lt hd)) h2)
theorem J.call {s : Nat} {k : Nat} {args : List Operand} {vs : List Value} {at_ : Array TypeId} {ty : TypeId} {pos : String} {aft : Array Edge} {g : Option (Nat × Bool)} {R : Value → World → Prop}
    (hk : Callable P k) (hargs : evAll E args = some vs) (hs : ∀ w, C w → Calls P k vs.toArray w (Ret R)) (hw : want ops E ⟨some s, .call ⟨.value (.func k), args.toArray, at_⟩, ty, pos, aft, g⟩ = some true) (hd : dstOk N (some s) = true)
    (kk : ∀ v, J N ((s, v) :: E) (R v) (wpList P ops Q rest)) : J N E C (wpList P ops Q (⟨some s, .call ⟨.value (.func k), args.toArray, at_⟩, ty, pos, aft, g⟩ :: rest)) := J.callD hk hargs hs hw hd kk
theorem J.call0 {k : Nat} {args : List Operand} {vs : List Value} {at_ : Array TypeId} {ty : TypeId} {pos : String} {aft : Array Edge} {g : Option (Nat × Bool)} {R : Value → World → Prop}
    (hk : Callable P k) (hargs : evAll E args = some vs) (hs : ∀ w, C w → Calls P k vs.toArray w (Ret R)) (hw : want ops E ⟨none, .call ⟨.value (.func k), args.toArray, at_⟩, ty, pos, aft, g⟩ = some true)
    (kk : ∀ v, J N E (R v) (wpList P ops Q rest)) : J N E C (wpList P ops Q (⟨none, .call ⟨.value (.func k), args.toArray, at_⟩, ty, pos, aft, g⟩ :: rest)) := J.callD hk hargs hs hw rfl kk
/-- A call that only reads, in a region that draws its order. -/
theorem JQ.callD {Q : Act → Prop} {d : Option Tmp} {k : Nat} {args : List Operand} {vs : List Value} {at_ : Array TypeId} {ty : TypeId} {pos : String} {aft : Array Edge} {g : Option (Nat × Bool)} {v : Value}
    (hk : Callable P k) (hargs : evAll E args = some vs) (hs : ∀ w, C w → Calls P k vs.toArray w (Ret fun u w' => u = v ∧ C w')) (hw : want ops E ⟨d, .call ⟨.value (.func k), args.toArray, at_⟩, ty, pos, aft, g⟩ = some true) (hd : dstOk N d = true)
    (kk : JQ P N (putE E d v) C ops Q rest) : JQ P N E C ops Q (⟨d, .call ⟨.value (.func k), args.toArray, at_⟩, ty, pos, aft, g⟩ :: rest) := fun a he =>
  wpQuiet_step fun K hK => by
    rw [want_wanted he hw]
    refine ⟨v, fun w hC => ?_, hK _ (kk _ (he.put (dstOk_lt hd)))⟩
    simp only [Oper.quietAt, run_call hk he hargs, Oper.quietUpon, true_and]
    exact (hs w hC).mono fun e w' ⟨u, h1, h2, h3⟩ => by subst h1; subst h2; exact ⟨rfl, h3⟩
theorem JQ.call {Q : Act → Prop} {s : Nat} {k : Nat} {args : List Operand} {vs : List Value} {at_ : Array TypeId} {ty : TypeId} {pos : String} {aft : Array Edge} {g : Option (Nat × Bool)} {v : Value}
    (hk : Callable P k) (hargs : evAll E args = some vs) (hs : ∀ w, C w → Calls P k vs.toArray w (Ret fun u w' => u = v ∧ C w')) (hw : want ops E ⟨some s, .call ⟨.value (.func k), args.toArray, at_⟩, ty, pos, aft, g⟩ = some true) (hd : dstOk N (some s) = true)
    (kk : JQ P N ((s, v) :: E) C ops Q rest) : JQ P N E C ops Q (⟨some s, .call ⟨.value (.func k), args.toArray, at_⟩, ty, pos, aft, g⟩ :: rest) := JQ.callD hk hargs hs hw hd kk
end Go.Sb
