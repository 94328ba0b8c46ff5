/- Regions that draw their order, with operations that read anywhere and others that come up alone. Over any program. -/
import Derived.Test.YtdpfdpmjnifanaaDoorBuild
import Derived.Deep.Quiet
namespace Go.Sb
open Go Go.RowKit
set_option linter.unusedSimpArgs false
set_option linter.unusedVariables false
section
variable {P : Program} {ops : Array Oper} {md : Region.Mode} {S : World → Prop}
def never : Exit → Act → World → Prop := fun _ _ _ => False
theorem wp_put {oi oj : Oper} {v : Value} (hap : oi.apart ops oj = true) (hsj : ∀ cs b, oj.op ≠ .select cs b) {K : Act → World → Prop} {a : Act} {w : World}
    (h : oj.wp P (a.put oi.dst v) w K never) : oj.wp P a w (fun a' w' => K (a'.put oi.dst v) w') never := by
  obtain ⟨h1, h2, _⟩ := Oper.apart_spec hap
  unfold Oper.wp at *
  rw [execOp_put oj hsj a oi.dst v h1] at h
  generalize (execOp a.eval oj).run P w = r at *
  have hc : ∀ (a : Act) u, (a.put oi.dst v).put oj.dst u = (a.put oj.dst u).put oi.dst v := fun a u => Act.put_comm a v u h2
  cases r with
  | ok n w' =>
    cases n <;> simp only [Oper.upon] at h ⊢
    case value u => rw [← hc]; exact h
    case skip => rw [← hc]; exact h
    case defer d =>
      have e : ({ a.put oi.dst v with defers := d :: (a.put oi.dst v).defers } : Act) = ({ a with defers := d :: a.defers } : Act).put oi.dst v := by
        cases oi.dst <;> rfl
      rw [e, hc] at h
      exact h
    case enter f args =>
      refine h.mono fun e w'' h' => ?_
      cases e with
      | returned u => simp only at h' ⊢; rw [← hc]; exact h'
      | panicked c => exact h'.elim
      | outgrown => exact h'
    case row row args => exact h.mono fun u w'' h' => by rw [← hc]; exact h'
  | halt x w' => cases x <;> simp only [Oper.upon] at h ⊢ <;> exact h
theorem wp_imp {o : Oper} {a : Act} {w : World} {K K' : Act → World → Prop} {Q Q' : Exit → Act → World → Prop} (h : ∀ a w, K a w → K' a w) (hp : ∀ c a w, Q (.panic c) a w → Q' (.panic c) a w) (hl : LetsOut Q → LetsOut Q') (hh : o.wp P a w K Q) : o.wp P a w K' Q' := by
  unfold Oper.wp at *
  generalize (execOp a.eval o).run P w = r at *
  cases r with
  | ok n w' =>
    cases n <;> simp only [Oper.upon] at hh ⊢
    case value u => exact h _ _ hh
    case skip => exact h _ _ hh
    case defer d => exact h _ _ hh
    case enter f args =>
      refine hh.mono fun e w'' h' => ?_
      cases e with
      | returned u => exact h _ _ h'
      | panicked c => exact hp _ _ _ h'
      | outgrown => exact hl h'
    case row row args => exact hh.mono fun u w'' h' => h _ _ h'
  | halt x w' => cases x <;> simp only [Oper.upon] at hh ⊢ <;> first | exact hp _ _ _ hh | exact hh
/-- Behind an operation the world is of a class that is no wider. -/
def within (S : World → Prop) (K : (World → Prop) → Act → World → Prop) (a : Act) (w : World) : Prop := ∃ S', (∀ x, S' x → S x) ∧ S' w ∧ K S' a w
/-- Operation number i comes up. -/
def mOp (P : Program) (ops : Array Oper) (S : World → Prop) (i : Nat) (K : (World → Prop) → Act → World → Prop) (a : Act) (w : World) : Prop :=
  ∃ o, ops[i]? = some o ∧ if Region.wanted o (yielded ops a.tmps) then o.wp P a w (within S K) never else within S K (a.put o.dst undef) w
theorem mOp_mono {i : Nat} {K K' : (World → Prop) → Act → World → Prop} {a : Act} {w : World} (h : ∀ S' a w, (∀ x, S' x → S x) → S' w → K S' a w → K' S' a w) (hh : mOp P ops S i K a w) : mOp P ops S i K' a w := by
  obtain ⟨o, ho, hh⟩ := hh
  refine ⟨o, ho, ?_⟩
  split
  · rename_i hw; rw [if_pos hw] at hh; exact wp_imp (fun a w ⟨S', h0, h1, h2⟩ => ⟨S', h0, h1, h _ _ _ h0 h1 h2⟩) (fun _ _ _ h => h) (fun h => h) hh
  · rename_i hw; rw [if_neg hw] at hh; obtain ⟨S', h0, h1, h2⟩ := hh; exact ⟨S', h0, h1, h _ _ _ h0 h1 h2⟩
theorem mOp_wpOp {i : Nat} {K : (World → Prop) → Act → World → Prop} {K' : Act → World → Prop} {Q' : Exit → Act → World → Prop} {a : Act} {w : World} (h : ∀ S' a w, S' w → K S' a w → K' a w) (hh : mOp P ops S i K a w) : wpOp P ops Q' i K' a w := by
  obtain ⟨o, ho, hh⟩ := hh
  unfold wpOp
  simp only [ho]
  split
  · rename_i hw; rw [if_pos hw] at hh; exact .inl (wp_imp (fun a w ⟨S', _, h1, h2⟩ => h S' _ _ h1 h2) (fun _ _ _ h => h.elim) (fun ⟨_, _, h⟩ => h.elim) hh)
  · rename_i hw; rw [if_neg hw] at hh; obtain ⟨S', _, h1, h2⟩ := hh; exact h S' _ _ h1 h2
def wpAnyM (P : Program) (md : Region.Mode) (ops : Array Oper) (Q : Act → World → Prop) : Nat → Array Bool → (World → Prop) → Act → World → Prop
  | 0, listed, _, a, w => Region.ready md ops listed = [] ∧ Q a w
  | fuel + 1, listed, S, a, w => (Region.ready md ops listed = [] → Q a w) ∧ ∀ i ∈ Region.ready md ops listed, mOp P ops S i (wpAnyM P md ops Q fuel (listed.setIfInBounds i true)) a w
theorem wpAny_of_mix {Q : Act → World → Prop} {Q' : Exit → Act → World → Prop} (hQ : ∀ a w, Q a w → Q' .normal a w) : ∀ (fuel : Nat) (listed : Array Bool) (S : World → Prop) (a : Act) (w : World), S w →
    wpAnyM P md ops Q fuel listed S a w → wpAny P md ops Q' fuel listed a w
  | 0, _, _, _, _, _, h => ⟨h.1, hQ _ _ h.2⟩
  | fuel + 1, _, _, _, _, _, h => ⟨fun h0 => hQ _ _ (h.1 h0), fun i hi => mOp_wpOp (fun S' a' w' hs hw' => wpAny_of_mix hQ fuel _ S' a' w' hs hw') (h.2 i hi)⟩
/-- In every world of the class S the operation o reads v, and leaves the world as it is. -/
def YieldsF (P : Program) (ops : Array Oper) (S : World → Prop) (o : Oper) (v : Value) (a : Act) : Prop :=
  (Region.wanted o (yielded ops a.tmps) = true ∧ ∀ w, S w → (execOp a.eval o).run P w = .ok (.value v) w) ∨ (Region.wanted o (yielded ops a.tmps) = false ∧ v = undef)
theorem YieldsF.narrow {S' : World → Prop} (h : ∀ x, S' x → S x) {o : Oper} {v : Value} {a : Act} (hy : YieldsF P ops S o v a) : YieldsF P ops S' o v a :=
  hy.imp (fun ⟨h1, h2⟩ => ⟨h1, fun w hw => h2 w (h w hw)⟩) id
theorem YieldsF.mOp {i : Nat} {o : Oper} {v : Value} {a : Act} {w : World} (hS : S w) (hi : ops[i]? = some o) (hy : YieldsF P ops S o v a) {K : (World → Prop) → Act → World → Prop} (h : K S (a.put o.dst v) w) : Sb.mOp P ops S i K a w := by
  refine ⟨o, hi, ?_⟩
  rcases hy with ⟨hw, hv⟩ | ⟨hw, rfl⟩
  · rw [if_pos hw]
    unfold Oper.wp
    rw [hv w hS]
    exact ⟨S, fun _ h => h, hS, h⟩
  · rw [if_neg (by simp [hw])]
    exact ⟨S, fun _ h => h, hS, h⟩
theorem YieldsF.keep {oi oj : Oper} {v : Value} (hsi : ∀ cs b, oi.op ≠ .select cs b) (hap : oi.apart ops oj = true) {a : Act} (hy : YieldsF P ops S oi v a) (u : Value) : YieldsF P ops S oi v (a.put oj.dst u) := by
  obtain ⟨_, _, h3⟩ := Oper.apart_spec hap
  unfold YieldsF at *
  rw [execOp_put oi hsi a oj.dst u h3, wanted_put oi a oj.dst u h3]
  exact hy
theorem YieldsF.defer {o : Oper} {v : Value} {a : Act} (hy : YieldsF P ops S o v a) (d : Deferred) : YieldsF P ops S o v { a with defers := d :: a.defers } := hy
theorem mOp_put {j : Nat} {oi oj : Oper} {v : Value} (hj : ops[j]? = some oj) (hap : oi.apart ops oj = true) (hsi : ∀ cs b, oi.op ≠ .select cs b) (hsj : ∀ cs b, oj.op ≠ .select cs b) {K : (World → Prop) → Act → World → Prop} {a : Act} {w : World}
    (hy : YieldsF P ops S oi v a) (h : mOp P ops S j K (a.put oi.dst v) w) : mOp P ops S j (fun S' a' w' => YieldsF P ops S' oi v a' ∧ K S' (a'.put oi.dst v) w') a w := by
  obtain ⟨h1, h2, h3⟩ := Oper.apart_spec hap
  obtain ⟨o, ho, h⟩ := h
  obtain rfl : o = oj := Option.some.inj (ho.symm.trans hj)
  refine ⟨o, ho, ?_⟩
  rw [wanted_put o a oi.dst v h1] at h
  split
  · rename_i hw
    rw [if_pos hw] at h
    have h' := wp_put hap hsj h
    unfold Oper.wp at *
    generalize (execOp a.eval o).run P w = r at *
    cases r with
    | ok n w' =>
      cases n <;> simp only [Oper.upon] at h' ⊢
      case value u => obtain ⟨S', h0, h1, h2⟩ := h'; exact ⟨S', h0, h1, (hy.narrow h0).keep hsi hap u, h2⟩
      case skip => obtain ⟨S', h0, h1, h2⟩ := h'; exact ⟨S', h0, h1, (hy.narrow h0).keep hsi hap _, h2⟩
      case defer d => obtain ⟨S', h0, h1, h2⟩ := h'; exact ⟨S', h0, h1, ((hy.narrow h0).defer d).keep hsi hap _, h2⟩
      case enter f args =>
        refine h'.mono fun e w'' h' => ?_
        cases e with
        | returned u => obtain ⟨S', h0, h1, h2⟩ := h'; exact ⟨S', h0, h1, (hy.narrow h0).keep hsi hap u, h2⟩
        | panicked c => exact h'
        | outgrown => exact h'
      case row row args => exact h'.mono fun u w'' ⟨S', h0, h1, h2⟩ => ⟨S', h0, h1, (hy.narrow h0).keep hsi hap u, h2⟩
    | halt x w' => cases x <;> simp only [Oper.upon] at h' ⊢ <;> exact h'
  · rename_i hw
    rw [if_neg hw] at h
    obtain ⟨S', g0, g1, g2⟩ := h
    exact ⟨S', g0, g1, (hy.narrow g0).keep hsi hap _, by rw [← Act.put_comm a v undef h2]; exact g2⟩
theorem wpAnyM_first {Q : Act → World → Prop} {i : Nat} {oi : Oper} {v : Value} (hi : ops[i]? = some oi) (hsel : ∀ (j : Nat) (o : Oper) cs b, ops[j]? = some o → o.op ≠ .select cs b) :
    ∀ (fuel : Nat) (listed : Array Bool) (S : World → Prop) (a : Act) (w : World), S w →
      (∀ j oj, ops[j]? = some oj → j ≠ i → listed.getD j true = false → (∀ e ∈ oj.after, Region.binds md e = true → e.on ≠ i) → oi.apart ops oj = true) →
      i ∈ Region.ready md ops listed → YieldsF P ops S oi v a →
      wpAnyM P md ops Q fuel (listed.setIfInBounds i true) S (a.put oi.dst v) w → wpAnyM P md ops Q (fuel + 1) listed S a w := by
  intro fuel
  induction fuel with
  | zero =>
    intro listed S a w hS _ hr hy H
    refine ⟨fun h => (by rw [h] at hr; cases hr), fun j hj => ?_⟩
    by_cases hji : j = i
    · subst hji; exact hy.mOp hS hi H
    · have := ready_mono hj hji
      rw [H.1] at this
      cases this
  | succ fuel ih =>
    intro listed S a w hS hfree hr hy H
    refine ⟨fun h => (by rw [h] at hr; cases hr), fun j hj => ?_⟩
    by_cases hji : j = i
    · subst hji; exact hy.mOp hS hi H
    · have h1 := H.2 j (ready_mono hj hji)
      obtain ⟨hjun, oj, hoj, hall⟩ := mem_ready.1 hj
      have hnot : ∀ e ∈ oj.after, Region.binds md e = true → e.on ≠ i := fun e he hb heq => by
        have h1 := hall e he hb
        have h0 := (mem_ready.1 hr).1
        rw [heq] at h1
        rcases Nat.lt_or_ge i listed.size with h' | h'
        · simp [h'] at h0 h1; rw [h0] at h1; cases h1
        · simp [Array.getElem?_eq_none h'] at h1
      have h2 := mOp_put hoj (hfree j oj hoj hji hjun hnot) (fun cs b => hsel i oi cs b hi) (fun cs b => hsel j oj cs b hoj) hy h1
      have hfree' : ∀ k ok, ops[k]? = some ok → k ≠ i → (listed.setIfInBounds j true).getD k true = false →
          (∀ e ∈ ok.after, Region.binds md e = true → e.on ≠ i) → oi.apart ops ok = true := fun k ok hk hki hun hno => by
        refine hfree k ok hk hki ?_ hno
        by_cases hjk : j = k
        · subst hjk; exact hjun
        · rw [getD_set_ne true hjk] at hun; exact hun
      refine mOp_mono (fun S' a' w' _ hS' h3 => ih (listed.setIfInBounds j true) S' a' w' hS' hfree' (ready_mono hr (Ne.symm hji)) h3.1 ?_) h2
      rw [Array.setIfInBounds_comm _ _ hji]
      exact h3.2
/-- The walk in a chosen order: (true, i): operation i reads, wherever it comes up; (false, i): it comes up alone. -/
def wpCert (P : Program) (ops : Array Oper) (Q : Act → World → Prop) : List (Bool × Nat) → (World → Prop) → Act → World → Prop
  | [], _, a, w => Q a w
  | (true, i) :: L, S, a, w => ∃ o v, ops[i]? = some o ∧ YieldsF P ops S o v a ∧ wpCert P ops Q L S (a.put o.dst v) w
  | (false, i) :: L, S, a, w => mOp P ops S i (wpCert P ops Q L) a w
def certB (md : Region.Mode) (ops : Array Oper) : List (Bool × Nat) → Array Bool → Bool
  | [], listed => (Region.ready md ops listed).isEmpty
  | (true, i) :: L, listed => (Region.ready md ops listed).contains i && Region.free md ops listed i && certB md ops L (listed.setIfInBounds i true)
  | (false, i) :: L, listed => (Region.ready md ops listed == [i]) && certB md ops L (listed.setIfInBounds i true)
def mixB (md : Region.Mode) (ops : Array Oper) (L : List (Bool × Nat)) : Bool := Region.noSelect ops && Nat.beq L.length ops.size && certB md ops L (Array.replicate ops.size false)
theorem wpAnyM_cert {Q : Act → World → Prop} (hs : Region.noSelect ops = true) : ∀ (L : List (Bool × Nat)) (listed : Array Bool) (S : World → Prop) (a : Act) (w : World), S w → certB md ops L listed = true → wpCert P ops Q L S a w → wpAnyM P md ops Q L.length listed S a w
  | [], _, _, _, _, _, hB, h => ⟨by simpa [certB] using hB, h⟩
  | (true, i) :: L, listed, S, a, w, hS, hB, ⟨o, v, ho, hy, hK⟩ => by
    simp only [certB, Bool.and_eq_true] at hB
    obtain ⟨⟨hr, hf⟩, hB'⟩ := hB
    exact wpAnyM_first ho (Region.noSelect_spec hs) L.length listed S a w hS (Region.free_spec ho hf) (by simpa using hr) hy (wpAnyM_cert hs L _ _ _ _ hS hB' hK)
  | (false, i) :: L, listed, S, a, w, hS, hB, h => by
    simp only [certB, Bool.and_eq_true, beq_iff_eq] at hB
    refine ⟨fun h0 => (by rw [h0] at hB; cases hB.1), fun j hj => ?_⟩
    rw [hB.1] at hj
    obtain rfl : j = i := by simpa using hj
    exact mOp_mono (fun S' a' w' _ hS' h' => wpAnyM_cert hs L _ _ _ _ hS' hB.2 h') h
end
section
variable {P : Program} {N : Nat} {E E' : En} {C D S : World → Prop} {Q : Exit → Act → World → Prop} {ops : Array Oper} {L : List (Bool × Nat)}
/-- The judgement in a region that draws its order, at a chosen order of its operations. -/
def JM (P : Program) (N : Nat) (E : En) (S C : World → Prop) (ops : Array Oper) (Q : Act → World → Prop) (L : List (Bool × Nat)) : Prop := ∀ a w, Env N a E → C w → wpCert P ops Q L S a w
theorem J.mix {id : Nat} {l : List Oper} (L : List (Bool × Nat)) (hm : P.follows .mixedOrders = true) (hB : mixB .any l.toArray L = true) (hC : ∀ w n, C w → C { w with drawn := n }) (hS : ∀ w, C w → S w)
    (h : JM P N E S C l.toArray (Q .normal) L) : J N E C ((Code.region id l.toArray true).wp P Q) := fun a w he hw => by
  simp only [mixB, Bool.and_eq_true] at hB
  have hn := Nat.eq_of_beq_eq_true hB.1.2
  refine wp_region_any hm ?_
  have := wpAnyM_cert (P := P) (Q := Q .normal) hB.1.1 L _ S a { w with drawn := w.drawn + 1 } (hS _ (hC w _ hw)) hB.2 (h a _ he (hC w _ hw))
  rw [hn] at this
  exact wpAny_of_mix (fun _ _ h => h) _ _ _ _ _ (hS _ (hC w _ hw)) this
theorem JM.done (h : J N E C (Q .normal)) : JM P N E S C ops (Q .normal) [] := fun a w he hC => h a w he hC
theorem JM.pass {Q : Act → World → Prop} {s i : Nat} {op : Op} {t : TypeId} {pos : String} {aft : Array Edge} {g : Option (Nat × Bool)} (ho : ops[i]? = some ⟨some s, op, t, pos, aft, g⟩) (hw : want ops E ⟨some s, op, t, pos, aft, g⟩ = some false) (hd : dstOk N (some s) = true) (k : JM P N ((s, undef) :: E) S C ops Q L) :
    JM P N E S C ops Q ((true, i) :: L) := fun _ w he hC => ⟨_, undef, ho, .inr ⟨want_wanted he hw, rfl⟩, k _ w (he.put (d := some s) (dstOk_lt hd)) hC⟩
theorem JM.passE {Q : Act → World → Prop} {s i : Nat} {op : Op} {t : TypeId} {pos : String} {aft : Array Edge} {g : Option (Nat × Bool)} (ho : ops[i]? = some ⟨some s, op, t, pos, aft, g⟩) (hw : want ops E ⟨some s, op, t, pos, aft, g⟩ = some false) (hd : dstOk N (some s) = true) (hS : ∀ w, C w → S w) (k : JM P N ((s, undef) :: E) S C ops Q L) :
    JM P N E S C ops Q ((false, i) :: L) := fun a w he hC => ⟨_, ho, by
      rw [want_wanted he hw]
      exact ⟨S, fun _ h => h, hS w hC, k _ w (he.put (d := some s) (dstOk_lt hd)) hC⟩⟩
theorem JM.rd {Q : Act → World → Prop} {v : Value} {s i : Nat} {op : Op} {t : TypeId} {pos : String} {aft : Array Edge} {g : Option (Nat × Bool)} (ho : ops[i]? = some ⟨some s, op, t, pos, aft, g⟩) (hr : Rd P N E S ⟨some s, op, t, pos, aft, g⟩ v) (hw : want ops E ⟨some s, op, t, pos, aft, g⟩ = some true)
    (hd : dstOk N (some s) = true) (k : JM P N ((s, v) :: E) S C ops Q L) : JM P N E S C ops Q ((true, i) :: L) := fun a w he hC =>
  ⟨_, v, ho, .inl ⟨want_wanted he hw, fun w' hS => hr a w' he hS⟩, k _ w (he.put (d := some s) (dstOk_lt hd)) hC⟩
theorem JM.bcase {Q : Act → World → Prop} {s : Nat} {b : Bool} (ht : b = true → JM P N ((s, .bool true) :: E) S C ops Q L) (hf : b = false → JM P N ((s, .bool false) :: E) S C ops Q L) : JM P N ((s, .bool b) :: E) S C ops Q L := by
  cases b
  · exact hf rfl
  · exact ht rfl
theorem JM.val {Q : Act → World → Prop} {s : Nat} {v v' : Value} (h : v = v') (hj : JM P N ((s, v') :: E) S C ops Q L) : JM P N ((s, v) :: E) S C ops Q L := h ▸ hj
theorem JM.conv {Q : Act → World → Prop} (h : ∀ w, C w → D w) (hj : JM P N E S D ops Q L) : JM P N E S C ops Q L := fun a w he hC => hj a w he (h w hC)
def mixQ (P : Program) (ops : Array Oper) (S : World → Prop) (Q : Act → World → Prop) (L : List (Bool × Nat)) : Exit → Act → World → Prop
  | .normal, a, w => within S (wpCert P ops Q L) a w
  | _, _, _ => False
/-- An operation that comes up alone: any rule of a region in order serves. -/
theorem JM.eff {Q : Act → World → Prop} {i : Nat} {o : Oper} (ho : ops[i]? = some o) (h : J N E C (wpList P ops (mixQ P ops S Q L) [o])) : JM P N E S C ops Q ((false, i) :: L) := fun a w he hC => by
  have h' := h a w he hC
  refine ⟨o, ho, ?_⟩
  unfold wpList at h'
  split
  · rename_i hw
    rw [if_pos hw] at h'
    rcases h' with h' | ⟨_, _, _, h'⟩
    · refine wp_imp (fun _ _ h => ?_) (fun _ _ _ h => h.elim) (fun ⟨_, _, h⟩ => h.elim) h'
      simpa [wpList, mixQ] using h
    · exact h'.elim
  · rename_i hw
    rw [if_neg hw] at h'
    simpa [wpList, mixQ] using h'
theorem JM.next {S' : World → Prop} {Q : Act → World → Prop} (hC : ∀ w, C w → S' w) (hS : ∀ w, S' w → S w) (k : JM P N E S' C ops Q L) : J N E C (wpList P ops (mixQ P ops S Q L) []) := fun a w he hw => ⟨S', hS, hC w hw, k a w he hw⟩
end
end Go.Sb
