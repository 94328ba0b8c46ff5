/- The walk, over what is known of some slots (a list of slot and value) and of the world (any predicate): one small rule for each operation. Over any program. -/
import Derived.Test.YtdpfdpmjnifanaaDoorHeap
import Derived.Deep.Quiet
import Derived.IntWalk
namespace Go.Sb
open Go Go.RowKit
set_option linter.unusedSimpArgs false
set_option linter.unusedVariables false

abbrev En := List (Nat × Value)
def look : En → Nat → Option Value
  | [], _ => none
  | (s, v) :: E, t => match Nat.beq s t with
    | true => some v
    | false => look E t
def evE (E : En) : Operand → Option Value
  | .tmp t => look E t
  | .const v => some v
  | .global g => some (.pointer (some ⟨g, 0, none⟩))
  | .func f => some (.func (.func f) #[] #[])
def putE (E : En) : Option Tmp → Value → En
  | some d, v => (d, v) :: E
  | none, _ => E
structure Env (N : Nat) (a : Act) (E : En) : Prop where
  defers : a.defers = []
  size : a.tmps.size = N
  at_ : ∀ s v, look E s = some v → a.tmps[s]? = some v

theorem Env.eval {N : Nat} {a : Act} {E : En} {x : Operand} {v : Value} (h : Env N a E) (hx : evE E x = some v) : a.eval x = v := by
  cases x with
  | tmp t => have := h.at_ t v hx; simp [Act.eval, Array.getD_eq_getD_getElem?, this]
  | const u => exact Option.some.inj hx
  | global g => exact Option.some.inj hx
  | func f => exact Option.some.inj hx
theorem Env.put {N : Nat} {a : Act} {E : En} {d : Option Tmp} {v : Value} (h : Env N a E) (hd : ∀ t, d = some t → t < N) : Env N (a.put d v) (putE E d v) := by
  cases d with
  | none => exact h
  | some t =>
    have ht := hd t rfl
    refine ⟨h.defers, by simp [Act.put, h.size], fun s u hs => ?_⟩
    simp only [putE, look] at hs
    by_cases e : t = s
    · subst e
      rw [show Nat.beq t t = true from Nat.beq_refl t] at hs
      simp only [Option.some.injEq] at hs
      subst hs
      simp [Act.put, h.size, ht]
    · have e' : Nat.beq t s = false := by
        cases hb : Nat.beq t s with
        | false => rfl
        | true => exact absurd (Nat.eq_of_beq_eq_true hb) e
      rw [e'] at hs
      have := h.at_ s u hs
      simp [Act.put, e, this]

/-- THE JUDGEMENT. -/
def J (N : Nat) (E : En) (C : World → Prop) (X : Act → World → Prop) : Prop := ∀ a w, Env N a E → C w → X a w
abbrev Sto (Z : World) (L : List HP) : World → Prop := fun w => St Z w L

variable {P : Program} {N : Nat} {E E' : En} {C C' : World → Prop} {Q : Exit → Act → World → Prop} {X : Act → World → Prop}

inductive EnLe (E : En) : En → Prop
  | nil : EnLe E []
  | cons {s : Nat} {v : Value} {E' : En} : look E s = some v → EnLe E E' → EnLe E ((s, v) :: E')
theorem EnLe.look {E : En} : ∀ {E' : En}, EnLe E E' → ∀ s v, look E' s = some v → look E s = some v
  | _, .nil, s, v, h => by cases h
  | _, .cons (s := s') (v := v') h1 h2, s, v, h => by
    simp only [Sb.look] at h
    cases hb : Nat.beq s' s with
    | true => rw [hb] at h; simp only [Option.some.injEq] at h; subst h; rw [← Nat.eq_of_beq_eq_true hb]; exact h1
    | false => rw [hb] at h; exact h2.look s v h
theorem EnLe.env {a : Act} (h : EnLe E E') (he : Env N a E) : Env N a E' := ⟨he.defers, he.size, fun s v hs => he.at_ s v (h.look s v hs)⟩
theorem EnLe.refl_ : ∀ (E : En), (∀ s v, Sb.look E s = some v → Sb.look E s = some v) := fun _ _ _ h => h

theorem J.weak (hE : EnLe E E') (hC : ∀ w, C w → C' w) (h : J N E' C' X) : J N E C X := fun a w he hw => h a w (hE.env he) (hC w hw)
theorem J.forget (hE : EnLe E E') (h : J N E' C X) : J N E C X := fun a w he hw => h a w (hE.env he) hw
theorem J.conv (hC : ∀ w, C w → C' w) (h : J N E C' X) : J N E C X := fun a w he hw => h a w he (hC w hw)
theorem J.exC {α : Type} {D : α → World → Prop} (h : ∀ x, J N E (D x) X) : J N E (fun w => ∃ x, D x w) X := fun a w he ⟨x, hx⟩ => h x a w he hx
theorem J.andC {p : Prop} (h : p → J N E C X) : J N E (fun w => p ∧ C w) X := fun a w he ⟨hp, hx⟩ => h hp a w he hx
theorem J.absurdC (h : ∀ w, C w → False) : J N E C X := fun _ w _ hw => (h w hw).elim
theorem J.bcase {s : Nat} {b : Bool} (ht : b = true → J N ((s, .bool true) :: E) C X) (hf : b = false → J N ((s, .bool false) :: E) C X) : J N ((s, .bool b) :: E) C X := by
  cases b
  · exact hf rfl
  · exact ht rfl
theorem J.val {s : Nat} {v v' : Value} (h : v = v') (hj : J N ((s, v') :: E) C X) : J N ((s, v) :: E) C X := h ▸ hj

/-! ### Code -/
theorem J.seq {x y : Code} (h : J N E C (x.wp P (Exit.then (y.wp P Q) Q))) : J N E C ((Code.seq x y).wp P Q) := fun a w he hw => wp_seq (h a w he hw)
theorem J.block {id : Nat} {c : Code} (h : J N E C (c.wp P (Exit.inBlock id Q))) : J N E C ((Code.block id c).wp P Q) := fun a w he hw => wp_block (h a w he hw)
theorem J.skip (h : J N E C (Q .normal)) : J N E C (Code.skip.wp P Q) := fun a w he hw => wp_skip (h a w he hw)
theorem J.exit {id : Nat} (h : J N E C (Q (.exit id))) : J N E C ((Code.exit id).wp P Q) := fun a w he hw => wp_exit (h a w he hw)
theorem J.ret (h : J N E C (Q .ret)) : J N E C (Code.ret.wp P Q) := fun a w he hw => wp_ret (h a w he hw)
theorem J.thenN {K : Act → World → Prop} (h : J N E C K) : J N E C (Exit.then K Q .normal) := h
theorem J.thenE {K : Act → World → Prop} {id : Nat} (h : J N E C (Q (.exit id))) : J N E C (Exit.then K Q (.exit id)) := h
theorem J.thenR {K : Act → World → Prop} (h : J N E C (Q .ret)) : J N E C (Exit.then K Q .ret) := h
theorem J.blockN {id : Nat} (h : J N E C (Q .normal)) : J N E C (Exit.inBlock id Q .normal) := h
theorem J.blockR {id : Nat} (h : J N E C (Q .ret)) : J N E C (Exit.inBlock id Q .ret) := h
theorem J.blockE {id : Nat} (h : J N E C (Q .normal)) : J N E C (Exit.inBlock id Q (.exit id)) := fun a w he hw => by simpa [Exit.inBlock] using h a w he hw
theorem J.blockF {id id' : Nat} (hne : Nat.beq id' id = false) (h : J N E C (Q (.exit id'))) : J N E C (Exit.inBlock id Q (.exit id')) := fun a w he hw => by
  have : id' ≠ id := fun e => by rw [e, Nat.beq_refl] at hne; cases hne
  simpa [Exit.inBlock, this] using h a w he hw
theorem J.condT {c : Operand} {x y : Code} (hc : evE E c = some (.bool true)) (h : J N E C (x.wp P Q)) : J N E C ((Code.cond c x y).wp P Q) := fun a w he hw => wp_cond_true (he.eval hc) (h a w he hw)
theorem J.condF {c : Operand} {x y : Code} (hc : evE E c = some (.bool false)) (h : J N E C (y.wp P Q)) : J N E C ((Code.cond c x y).wp P Q) := fun a w he hw => wp_cond_false (he.eval hc) (h a w he hw)
theorem J.cond {c : Operand} {x y : Code} {b : Bool} (hc : evE E c = some (.bool b)) (ht : b = true → J N E C (x.wp P Q)) (hf : b = false → J N E C (y.wp P Q)) : J N E C ((Code.cond c x y).wp P Q) := by
  cases b
  · exact J.condF hc (hf rfl)
  · exact J.condT hc (ht rfl)
/-- A piece of code, told by what it leaves. -/
theorem J.cut {x y : Code} {σ : Type} (Ei : σ → En) (Ci : σ → World → Prop)
    (h1 : J N E C (x.wp P (Exit.then (fun a w => ∃ s, Env N a (Ei s) ∧ Ci s w) Q))) (h2 : ∀ s, J N (Ei s) (Ci s) (y.wp P Q)) : J N E C ((Code.seq x y).wp P Q) := fun a w he hw =>
  wp_seq (wp_mono (h1 a w he hw) (fun e a w q => by
    cases e <;> first | exact q | (obtain ⟨s, h3, h4⟩ := q; exact h2 s a w h3 h4)))
theorem J.met {σ : Type} {Ei : σ → En} {Ci : σ → World → Prop} (s : σ) (hE : EnLe E (Ei s)) (hC : ∀ w, C w → Ci s w) : J N E C (fun a w => ∃ s, Env N a (Ei s) ∧ Ci s w) := fun _ w he hw => ⟨s, hE.env he, hC w hw⟩
theorem J.loop {c : Code} {σ : Type} (m : σ → Nat) (Ei : σ → En) (Ci : σ → World → Prop) (s0 : σ) (hE : EnLe E (Ei s0)) (hC : ∀ w, C w → Ci s0 w)
    (hb : ∀ s, J N (Ei s) (Ci s) (c.wp P (Exit.then (fun a w => ∃ s', m s' < m s ∧ Env N a (Ei s') ∧ Ci s' w) Q))) : J N E C ((Code.loop c).wp P Q) := by
  intro a w he hw b k cs
  have key : ∀ n s a w, m s = n → Env N a (Ei s) → Ci s w →
      ∃ e a' w', Q e a' w' ∧ Arrives P (lone (b.at a (.code c :: .inLoop c :: k)) cs w) b k cs e a' w' := by
    intro n
    induction n using Nat.strongRecOn with
    | _ n ih =>
      intro s a w hn he hw
      obtain ⟨e, a1, w1, hq, harr⟩ := hb s a w he hw b (.inLoop c :: k) cs
      cases e with
      | normal =>
        obtain ⟨s', hlt, he', hw'⟩ := hq
        obtain ⟨e2, a2, w2, hq2, harr2⟩ := ih (m s') (hn ▸ hlt) s' a1 w1 rfl he' hw'
        exact ⟨e2, a2, w2, hq2, .of_steps (Steps.trans harr (.one step_inLoop)) harr2⟩
      | exit id => exact ⟨_, a1, w1, hq, .pass (x := .inLoop c) rfl (fun _ _ => .inl (by simp)) harr⟩
      | goto l => exact ⟨_, a1, w1, hq, .pass (x := .inLoop c) rfl (fun _ _ => .inl (by simp)) harr⟩
      | ret => exact ⟨_, a1, w1, hq, .pass (x := .inLoop c) rfl (fun _ _ => .inl (by simp)) harr⟩
      | panic ch => exact ⟨_, a1, w1, hq, .pass (x := .inLoop c) rfl (fun _ _ => .inl (by simp)) harr⟩
      | outgrown => exact ⟨_, a1, w1, hq, .pass (x := .inLoop c) rfl (fun _ _ => .inl (by simp)) harr⟩
  obtain ⟨e, a', w', hq, harr⟩ := key _ s0 a w rfl (hE.env he) (hC w hw)
  exact ⟨e, a', w', hq, .of_steps (.one step_loop) harr⟩
theorem J.again {σ : Type} {m : σ → Nat} {Ei : σ → En} {Ci : σ → World → Prop} (s s' : σ) (hm : m s' < m s) (hE : EnLe E (Ei s')) (hC : ∀ w, C w → Ci s' w) :
    J N E C (fun a w => ∃ s', m s' < m s ∧ Env N a (Ei s') ∧ Ci s' w) := fun _ w he hw => ⟨s', hm, hE.env he, hC w hw⟩

/-! ### Entering, leaving -/
/-- The call returns, and R says what and in which world. -/
def Ret (R : Value → World → Prop) : Ending → World → Prop := fun e w => ∃ v, e = .returned v ∧ R v w
theorem Ret.mono {R R' : Value → World → Prop} (h : ∀ v w, R v w → R' v w) : ∀ e w, Ret R e w → Ret R' e w := fun _ _ ⟨v, e, r⟩ => ⟨v, e, h _ _ r⟩
def argsE : Nat → List Value → En
  | _, [] => []
  | i, v :: l => (i, v) :: argsE (i + 1) l
theorem look_argsE : ∀ (l : List Value) (i s : Nat) (v : Value), look (argsE i l) s = some v → ∃ j, s = i + j ∧ l[j]? = some v
  | [], i, s, v, h => by cases h
  | u :: l, i, s, v, h => by
    simp only [argsE, look] at h
    cases hb : Nat.beq i s with
    | true => rw [hb] at h; simp only [Option.some.injEq] at h; subst h; exact ⟨0, (Nat.eq_of_beq_eq_true hb).symm, rfl⟩
    | false =>
      rw [hb] at h
      obtain ⟨j, h1, h2⟩ := look_argsE l (i + 1) s v h
      exact ⟨j + 1, by omega, by simpa using h2⟩
theorem J.enter {f : FuncId} {fn : Func} {c : Code} {l : List Value} {R : Ending → World → Prop} {w : World} {C : World → Prop}
    (hf : P.funcs[f]? = some fn) (hb : fn.body = some c) (hn : fn.ntmps = N) (hl : l.length ≤ N) (hw : C w) (h : J N (argsE 0 l) C (c.wp P (bodyPost P fn R))) : Calls P f l.toArray w R := by
  refine calls_of_wp hf hb (h _ w ⟨rfl, by simp [hn]; omega, fun s v hs => ?_⟩ hw)
  obtain ⟨j, rfl, hj⟩ := look_argsE l 0 s v hs
  have hlt := (List.getElem?_eq_some_iff.1 hj).1
  simp only [Nat.zero_add, List.size_toArray]
  rw [Array.getElem?_append_left (by simpa using hlt)]
  simpa using hj

theorem results4 {fn : Func} {t u v x : Tmp} (h : fn.results = #[.tmp t, .tmp u, .tmp v, .tmp x]) (tmps : Array Value) (P : Program) (w : World) :
    (results fn tmps).run P w = .ok (.tuple #[tmps.getD t undef, tmps.getD u undef, tmps.getD v undef, tmps.getD x undef]) w := by simp [results, h]
theorem Env.getD {a : Act} {t : Nat} {v : Value} (h : Env N a E) (hx : look E t = some v) : a.tmps.getD t undef = v := by
  have := h.at_ t v hx; simp [Array.getD_eq_getD_getElem?, this]
section
variable {fn : Func} {R : Value → World → Prop} {e : Exit}
theorem J.leave_ (he : e = .normal ∨ e = .ret) (v : Value) (hr : ∀ a w, Env N a E → (results fn a.tmps).run P w = .ok v w) (h : ∀ w, C w → R v w) : J N E C (bodyPost P fn (Ret R) e) := by
  intro a w hE hw
  rcases he with rfl | rfl <;> exact ⟨hE.defers, v, hr a w hE, v, rfl, h w hw⟩
theorem J.leave0 (he : e = .normal ∨ e = .ret) (hf : fn.results = #[]) (h : ∀ w, C w → R (.tuple #[]) w) : J N E C (bodyPost P fn (Ret R) e) :=
  J.leave_ he _ (fun _ _ _ => results_none hf _ _ _) h
theorem J.leave1 {t : Tmp} {v : Value} (he : e = .normal ∨ e = .ret) (hf : fn.results = #[.tmp t]) (hv : look E t = some v) (h : ∀ w, C w → R v w) : J N E C (bodyPost P fn (Ret R) e) :=
  J.leave_ he v (fun a w hE => by rw [results_tmp hf, hE.getD hv]) h
theorem J.leave2 {t u : Tmp} {v x : Value} (he : e = .normal ∨ e = .ret) (hf : fn.results = #[.tmp t, .tmp u]) (hv : look E t = some v) (hx : look E u = some x) (h : ∀ w, C w → R (.tuple #[v, x]) w) : J N E C (bodyPost P fn (Ret R) e) :=
  J.leave_ he _ (fun a w hE => by rw [results_tmp2 hf, hE.getD hv, hE.getD hx]) h
theorem J.leave3 {t u s : Tmp} {v x y : Value} (he : e = .normal ∨ e = .ret) (hf : fn.results = #[.tmp t, .tmp u, .tmp s]) (hv : look E t = some v) (hx : look E u = some x) (hy : look E s = some y) (h : ∀ w, C w → R (.tuple #[v, x, y]) w) : J N E C (bodyPost P fn (Ret R) e) :=
  J.leave_ he _ (fun a w hE => by rw [results_tmp3 hf, hE.getD hv, hE.getD hx, hE.getD hy]) h
end
end Go.Sb
