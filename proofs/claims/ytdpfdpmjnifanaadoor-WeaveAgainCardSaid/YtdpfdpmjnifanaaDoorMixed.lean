/- Regions that draw their order, once more: a read holds its world only until what needs it has come up. Over any program. -/
import Derived.Test.YtdpfdpmjnifanaaDoorMix
namespace Go.Sb
open Go Go.RowKit
set_option linter.unusedSimpArgs false
set_option linter.unusedVariables false
abbrev Fam := Nat → World → Prop
section
variable {P : Program} {ops : Array Oper} {md : Region.Mode} {S : Fam}
/-- Must operation i have come up before operation j? -/
def depB (md : Region.Mode) (ops : Array Oper) (j i : Nat) : Bool := match ops[j]? with
  | some o => o.after.toList.any fun e => Region.binds md e && Nat.beq e.on i
  | none => false
theorem depB_false {j i : Nat} {oj : Oper} (hj : ops[j]? = some oj) (h : ∀ e ∈ oj.after, Region.binds md e = true → e.on ≠ i) : depB md ops j i = false := by
  unfold depB
  rw [hj]
  simp only [List.any_eq_false, Bool.and_eq_true, not_and]
  intro e he hb heq
  exact h e (by simpa using he) hb (Nat.eq_of_beq_eq_true heq)
def within2 (md : Region.Mode) (ops : Array Oper) (j : Nat) (S : Fam) (K : Fam → Act → World → Prop) (a : Act) (w : World) : Prop :=
  ∃ S' : Fam, (∀ i, depB md ops j i = false → ∀ x, S' i x → S i x) ∧ (∀ i, S' i w) ∧ K S' a w
def mOp2 (P : Program) (md : Region.Mode) (ops : Array Oper) (S : Fam) (i : Nat) (K : Fam → Act → World → Prop) (a : Act) (w : World) : Prop :=
  ∃ o, ops[i]? = some o ∧ if Region.wanted o (yielded ops a.tmps) then o.wp P a w (within2 md ops i S K) never else within2 md ops i S K (a.put o.dst undef) w
theorem mOp2_mono {i : Nat} {K K' : Fam → Act → World → Prop} {a : Act} {w : World} (h : ∀ S' a w, (∀ k, S' k w) → K S' a w → K' S' a w) (hh : mOp2 P md ops S i K a w) : mOp2 P md ops S i K' a w := by
  obtain ⟨o, ho, hh⟩ := hh
  refine ⟨o, ho, ?_⟩
  split
  · rename_i hw; rw [if_pos hw] at hh; exact wp_imp (fun a w ⟨S', h0, h1, h2⟩ => ⟨S', h0, h1, h _ _ _ h1 h2⟩) (fun _ _ _ h => h) (fun h => h) hh
  · rename_i hw; rw [if_neg hw] at hh; obtain ⟨S', h0, h1, h2⟩ := hh; exact ⟨S', h0, h1, h _ _ _ h1 h2⟩
theorem mOp2_wide {T : Fam} {i : Nat} {K : Fam → Act → World → Prop} {a : Act} {w : World} (hT : ∀ k x, S k x → T k x) (hh : mOp2 P md ops S i K a w) : mOp2 P md ops T i K a w := by
  obtain ⟨o, ho, hh⟩ := hh
  refine ⟨o, ho, ?_⟩
  split
  · rename_i hw; rw [if_pos hw] at hh; exact wp_imp (fun a w ⟨S', h0, h1, h2⟩ => ⟨S', fun k hk x hx => hT k x (h0 k hk x hx), h1, h2⟩) (fun _ _ _ h => h) (fun h => h) hh
  · rename_i hw; rw [if_neg hw] at hh; obtain ⟨S', h0, h1, h2⟩ := hh; exact ⟨S', fun k hk x hx => hT k x (h0 k hk x hx), h1, h2⟩
theorem mOp2_wpOp {i : Nat} {K : Fam → Act → World → Prop} {K' : Act → World → Prop} {Q' : Exit → Act → World → Prop} {a : Act} {w : World} (h : ∀ S' a w, (∀ k, S' k w) → K S' a w → K' a w) (hh : mOp2 P md ops S i K a w) : wpOp P ops Q' i K' a w := by
  obtain ⟨o, ho, hh⟩ := hh
  unfold wpOp
  simp only [ho]
  split
  · rename_i hw; rw [if_pos hw] at hh; exact .inl (wp_imp (fun a w ⟨S', _, h1, h2⟩ => h S' _ _ h1 h2) (fun _ _ _ h => h.elim) (fun ⟨_, _, h⟩ => h.elim) hh)
  · rename_i hw; rw [if_neg hw] at hh; obtain ⟨S', _, h1, h2⟩ := hh; exact h S' _ _ h1 h2
def wpAny2 (P : Program) (md : Region.Mode) (ops : Array Oper) (Q : Act → World → Prop) : Nat → Array Bool → Fam → Act → World → Prop
  | 0, listed, _, a, w => Region.ready md ops listed = [] ∧ Q a w
  | fuel + 1, listed, S, a, w => (Region.ready md ops listed = [] → Q a w) ∧ ∀ i ∈ Region.ready md ops listed, mOp2 P md ops S i (wpAny2 P md ops Q fuel (listed.setIfInBounds i true)) a w
theorem wpAny2_wide {Q : Act → World → Prop} {T : Fam} (hT : ∀ k x, S k x → T k x) : ∀ {fuel : Nat} {listed : Array Bool} {a : Act} {w : World}, wpAny2 P md ops Q fuel listed S a w → wpAny2 P md ops Q fuel listed T a w
  | 0, _, _, _, h => h
  | fuel + 1, _, _, _, h => ⟨h.1, fun i hi => mOp2_wide hT (h.2 i hi)⟩
theorem wpAny_of_mix2 {Q : Act → World → Prop} {Q' : Exit → Act → World → Prop} (hQ : ∀ a w, Q a w → Q' .normal a w) : ∀ (fuel : Nat) (listed : Array Bool) (S : Fam) (a : Act) (w : World),
    wpAny2 P md ops Q fuel listed S a w → wpAny P md ops Q' fuel listed a w
  | 0, _, _, _, _, h => ⟨h.1, hQ _ _ h.2⟩
  | fuel + 1, _, _, _, _, h => ⟨fun h0 => hQ _ _ (h.1 h0), fun i hi => mOp2_wpOp (fun S' a' w' _ hw' => wpAny_of_mix2 hQ fuel _ S' a' w' hw') (h.2 i hi)⟩
theorem YieldsF.mOp2 {i : Nat} {o : Oper} {v : Value} {a : Act} {w : World} (hS : ∀ k, S k w) (hi : ops[i]? = some o) (hy : YieldsF P ops (S i) o v a) {K : Fam → Act → World → Prop} (h : K S (a.put o.dst v) w) : Sb.mOp2 P md ops S i K a w := by
  refine ⟨o, hi, ?_⟩
  rcases hy with ⟨hw, hv⟩ | ⟨hw, rfl⟩
  · rw [if_pos hw]
    unfold Oper.wp
    rw [hv w (hS i)]
    exact ⟨S, fun _ _ _ h => h, hS, h⟩
  · rw [if_neg (by simp [hw])]
    exact ⟨S, fun _ _ _ h => h, hS, h⟩
theorem mOp2_put {i j : Nat} {oi oj : Oper} {v : Value} (hj : ops[j]? = some oj) (hd : depB md ops j i = false) (hap : oi.apart ops oj = true) (hsi : ∀ cs b, oi.op ≠ .select cs b) (hsj : ∀ cs b, oj.op ≠ .select cs b) {K : Fam → Act → World → Prop} {a : Act} {w : World}
    (hy : YieldsF P ops (S i) oi v a) (h : mOp2 P md ops S j K (a.put oi.dst v) w) : mOp2 P md ops S j (fun S' a' w' => YieldsF P ops (S' i) oi v a' ∧ K S' (a'.put oi.dst v) w') a w := by
  obtain ⟨h1, h2, h3⟩ := Oper.apart_spec hap
  obtain ⟨o, ho, h⟩ := h
  obtain rfl : o = oj := Option.some.inj (ho.symm.trans hj)
  refine ⟨o, ho, ?_⟩
  rw [wanted_put o a oi.dst v h1] at h
  split
  · rename_i hw
    rw [if_pos hw] at h
    have h' := wp_put hap hsj h
    unfold Oper.wp at *
    generalize (execOp a.eval o).run P w = r at *
    cases r with
    | ok n w' =>
      cases n <;> simp only [Oper.upon] at h' ⊢
      case value u => obtain ⟨S', h0, h1, h2⟩ := h'; exact ⟨S', h0, h1, (hy.narrow (h0 i hd)).keep hsi hap u, h2⟩
      case skip => obtain ⟨S', h0, h1, h2⟩ := h'; exact ⟨S', h0, h1, (hy.narrow (h0 i hd)).keep hsi hap _, h2⟩
      case defer d => obtain ⟨S', h0, h1, h2⟩ := h'; exact ⟨S', h0, h1, ((hy.narrow (h0 i hd)).defer d).keep hsi hap _, h2⟩
      case enter f args =>
        refine h'.mono fun e w'' h' => ?_
        cases e with
        | returned u => obtain ⟨S', h0, h1, h2⟩ := h'; exact ⟨S', h0, h1, (hy.narrow (h0 i hd)).keep hsi hap u, h2⟩
        | panicked c => exact h'
        | outgrown => exact h'
      case row row args => exact h'.mono fun u w'' ⟨S', h0, h1, h2⟩ => ⟨S', h0, h1, (hy.narrow (h0 i hd)).keep hsi hap u, h2⟩
    | halt x w' => cases x <;> simp only [Oper.upon] at h' ⊢ <;> exact h'
  · rename_i hw
    rw [if_neg hw] at h
    obtain ⟨S', g0, g1, g2⟩ := h
    exact ⟨S', g0, g1, (hy.narrow (g0 i hd)).keep hsi hap _, by rw [← Act.put_comm a v undef h2]; exact g2⟩
theorem wpAny2_first {Q : Act → World → Prop} {i : Nat} {oi : Oper} {v : Value} (hi : ops[i]? = some oi) (hsel : ∀ (j : Nat) (o : Oper) cs b, ops[j]? = some o → o.op ≠ .select cs b) :
    ∀ (fuel : Nat) (listed : Array Bool) (S : Fam) (a : Act) (w : World), (∀ k, S k w) →
      (∀ j oj, ops[j]? = some oj → j ≠ i → listed.getD j true = false → (∀ e ∈ oj.after, Region.binds md e = true → e.on ≠ i) → oi.apart ops oj = true) →
      i ∈ Region.ready md ops listed → YieldsF P ops (S i) oi v a →
      wpAny2 P md ops Q fuel (listed.setIfInBounds i true) S (a.put oi.dst v) w → wpAny2 P md ops Q (fuel + 1) listed S a w := by
  intro fuel
  induction fuel with
  | zero =>
    intro listed S a w hS _ hr hy H
    refine ⟨fun h => (by rw [h] at hr; cases hr), fun j hj => ?_⟩
    by_cases hji : j = i
    · subst hji; exact hy.mOp2 hS hi H
    · have := ready_mono hj hji
      rw [H.1] at this
      cases this
  | succ fuel ih =>
    intro listed S a w hS hfree hr hy H
    refine ⟨fun h => (by rw [h] at hr; cases hr), fun j hj => ?_⟩
    by_cases hji : j = i
    · subst hji; exact hy.mOp2 hS hi H
    · have h1 := H.2 j (ready_mono hj hji)
      obtain ⟨hjun, oj, hoj, hall⟩ := mem_ready.1 hj
      have hnot : ∀ e ∈ oj.after, Region.binds md e = true → e.on ≠ i := fun e he hb heq => by
        have h1 := hall e he hb
        have h0 := (mem_ready.1 hr).1
        rw [heq] at h1
        rcases Nat.lt_or_ge i listed.size with h' | h'
        · simp [h'] at h0 h1; rw [h0] at h1; cases h1
        · simp [Array.getElem?_eq_none h'] at h1
      have h2 := mOp2_put hoj (depB_false hoj hnot) (hfree j oj hoj hji hjun hnot) (fun cs b => hsel i oi cs b hi) (fun cs b => hsel j oj cs b hoj) hy h1
      have hfree' : ∀ k ok, ops[k]? = some ok → k ≠ i → (listed.setIfInBounds j true).getD k true = false →
          (∀ e ∈ ok.after, Region.binds md e = true → e.on ≠ i) → oi.apart ops ok = true := fun k ok hk hki hun hno => by
        refine hfree k ok hk hki ?_ hno
        by_cases hjk : j = k
        · subst hjk; exact hjun
        · rw [getD_set_ne true hjk] at hun; exact hun
      refine mOp2_mono (fun S' a' w' hS' h3 => ih (listed.setIfInBounds j true) S' a' w' hS' hfree' (ready_mono hr (Ne.symm hji)) h3.1 ?_) h2
      rw [Array.setIfInBounds_comm _ _ hji]
      exact h3.2
def setF (S : Fam) (i : Nat) (T : World → Prop) : Fam := fun k x => S k x ∧ (k = i → T x)
/-- The walk in a chosen order: (true, i): operation i reads, in every world of a class that it names; (false, i): it comes up alone. -/
def wpCert2 (P : Program) (md : Region.Mode) (ops : Array Oper) (Q : Act → World → Prop) : List (Bool × Nat) → Fam → Act → World → Prop
  | [], _, a, w => Q a w
  | (true, i) :: L, S, a, w => ∃ o v T, ops[i]? = some o ∧ T w ∧ YieldsF P ops T o v a ∧ wpCert2 P md ops Q L (setF S i T) (a.put o.dst v) w
  | (false, i) :: L, S, a, w => mOp2 P md ops S i (wpCert2 P md ops Q L) a w
theorem wpAny2_cert {Q : Act → World → Prop} (hs : Region.noSelect ops = true) : ∀ (L : List (Bool × Nat)) (listed : Array Bool) (S : Fam) (a : Act) (w : World), (∀ k, S k w) → certB md ops L listed = true → wpCert2 P md ops Q L S a w → wpAny2 P md ops Q L.length listed S a w
  | [], _, _, _, _, _, hB, h => ⟨by simpa [certB] using hB, h⟩
  | (true, i) :: L, listed, S, a, w, hS, hB, ⟨o, v, T, ho, hT, hy, hK⟩ => by
    simp only [certB, Bool.and_eq_true] at hB
    obtain ⟨⟨hr, hf⟩, hB'⟩ := hB
    have hS' : ∀ k, setF S i T k w := fun k => ⟨hS k, fun _ => hT⟩
    refine wpAny2_wide (S := setF S i T) (fun k x h => h.1) ?_
    exact wpAny2_first ho (Region.noSelect_spec hs) L.length listed (setF S i T) a w hS' (Region.free_spec ho hf) (by simpa using hr) (hy.narrow (fun x h => h.2 rfl)) (wpAny2_cert hs L _ _ _ _ hS' hB' hK)
  | (false, i) :: L, listed, S, a, w, hS, hB, h => by
    simp only [certB, Bool.and_eq_true, beq_iff_eq] at hB
    refine ⟨fun h0 => (by rw [h0] at hB; cases hB.1), fun j hj => ?_⟩
    rw [hB.1] at hj
    obtain rfl : j = i := by simpa using hj
    exact mOp2_mono (fun S' a' w' hS' h' => wpAny2_cert hs L _ _ _ _ hS' hB.2 h') h
end
section
variable {P : Program} {N : Nat} {E E' : En} {C D : World → Prop} {Pd : List (Nat × (World → Prop))} {Q : Exit → Act → World → Prop} {ops : Array Oper} {L : List (Bool × Nat)}
/-- What is still held: reads that nothing has needed yet. -/
def famOf (Pd : List (Nat × (World → Prop))) : Fam := fun i w => ∀ T, (i, T) ∈ Pd → T w
/-- The judgement in a region that draws its order, at a chosen order of its operations; some reads are still held. -/
def JN (P : Program) (N : Nat) (E : En) (Pd : List (Nat × (World → Prop))) (C : World → Prop) (ops : Array Oper) (Q : Act → World → Prop) (L : List (Bool × Nat)) : Prop := ∀ a w, Env N a E → C w → ∀ S : Fam, (∀ i x, famOf Pd i x → S i x) → wpCert2 P .any ops Q L S a w
theorem wpCert2_wide {Q : Act → World → Prop} {S T : Fam} (hT : ∀ k x, S k x → T k x) : ∀ {L : List (Bool × Nat)} {a : Act} {w : World}, wpCert2 P .any ops Q L S a w → wpCert2 P .any ops Q L T a w := by
  intro L
  induction L generalizing S T with
  | nil => intro a w h; exact h
  | cons x L ih =>
    obtain ⟨b, i⟩ := x
    intro a w h
    cases b with
    | true =>
      obtain ⟨o, v, U, h1, h2, h3, h4⟩ := h
      exact ⟨o, v, U, h1, h2, h3, ih (fun k x hx => ⟨hT k x hx.1, hx.2⟩) h4⟩
    | false => exact mOp2_wide hT h
theorem J.mixN {id : Nat} {l : List Oper} (L : List (Bool × Nat)) (hm : P.follows .mixedOrders = true) (hB : mixB .any l.toArray L = true) (hC : ∀ w n, C w → C { w with drawn := n })
    (h : JN P N E [] C l.toArray (Q .normal) L) : J N E C ((Code.region id l.toArray true).wp P Q) := fun a w he hw => by
  simp only [mixB, Bool.and_eq_true] at hB
  have hn := Nat.eq_of_beq_eq_true hB.1.2
  refine wp_region_any hm ?_
  have := wpAny2_cert (P := P) (md := .any) (Q := Q .normal) hB.1.1 L _ (fun _ _ => True) a { w with drawn := w.drawn + 1 } (fun _ => trivial) hB.2 (h a _ he (hC w _ hw) _ (fun _ _ _ => trivial))
  rw [hn] at this
  exact wpAny_of_mix2 (fun _ _ h => h) _ _ _ _ _ this
theorem JN.done (h : J N E C (Q .normal)) : JN P N E Pd C ops (Q .normal) [] := fun a w he hC _ _ => h a w he hC
/-- A read; it is held in worlds of the class C. -/
theorem JN.rd {Q : Act → World → Prop} {v : Value} {s i : Nat} {op : Op} {t : TypeId} {pos : String} {aft : Array Edge} {g : Option (Nat × Bool)} (ho : ops[i]? = some ⟨some s, op, t, pos, aft, g⟩) (hr : Rd P N E C ⟨some s, op, t, pos, aft, g⟩ v) (hw : want ops E ⟨some s, op, t, pos, aft, g⟩ = some true)
    (hd : dstOk N (some s) = true) (k : JN P N ((s, v) :: E) ((i, C) :: Pd) C ops Q L) : JN P N E Pd C ops Q ((true, i) :: L) := fun a w he hC S hS =>
  ⟨_, v, C, ho, hC, .inl ⟨want_wanted he hw, fun w' hS => hr a w' he hS⟩, k _ w (he.put (d := some s) (dstOk_lt hd)) hC _ (fun j x hx => ⟨hS j x (fun T hT => hx T (.tail _ hT)), fun e => hx C (e ▸ .head _)⟩)⟩
/-- What needs no world: it is not held. -/
theorem JN.rp {Q : Act → World → Prop} {v : Value} {s i : Nat} {op : Op} {t : TypeId} {pos : String} {aft : Array Edge} {g : Option (Nat × Bool)} (ho : ops[i]? = some ⟨some s, op, t, pos, aft, g⟩) (hr : Rd P N E (fun _ => True) ⟨some s, op, t, pos, aft, g⟩ v) (hw : want ops E ⟨some s, op, t, pos, aft, g⟩ = some true)
    (hd : dstOk N (some s) = true) (k : JN P N ((s, v) :: E) Pd C ops Q L) : JN P N E Pd C ops Q ((true, i) :: L) := fun a w he hC S hS =>
  ⟨_, v, fun _ => True, ho, trivial, .inl ⟨want_wanted he hw, fun w' hS => hr a w' he hS⟩, k _ w (he.put (d := some s) (dstOk_lt hd)) hC _ (fun j x hx => ⟨hS j x hx, fun _ => trivial⟩)⟩
theorem JN.pass {Q : Act → World → Prop} {s i : Nat} {op : Op} {t : TypeId} {pos : String} {aft : Array Edge} {g : Option (Nat × Bool)} (ho : ops[i]? = some ⟨some s, op, t, pos, aft, g⟩) (hw : want ops E ⟨some s, op, t, pos, aft, g⟩ = some false) (hd : dstOk N (some s) = true) (k : JN P N ((s, undef) :: E) Pd C ops Q L) :
    JN P N E Pd C ops Q ((true, i) :: L) := fun a w he hC S hS =>
  ⟨_, undef, fun _ => True, ho, trivial, .inr ⟨want_wanted he hw, rfl⟩, k _ w (he.put (d := some s) (dstOk_lt hd)) hC _ (fun j x hx => ⟨hS j x hx, fun _ => trivial⟩)⟩
theorem JN.passE {Q : Act → World → Prop} {s i : Nat} {op : Op} {t : TypeId} {pos : String} {aft : Array Edge} {g : Option (Nat × Bool)} (ho : ops[i]? = some ⟨some s, op, t, pos, aft, g⟩) (hw : want ops E ⟨some s, op, t, pos, aft, g⟩ = some false) (hd : dstOk N (some s) = true) (hP : ∀ x ∈ Pd, ∀ w, C w → x.2 w) (k : JN P N ((s, undef) :: E) Pd C ops Q L) :
    JN P N E Pd C ops Q ((false, i) :: L) := fun a w he hC S hS => ⟨_, ho, by
      rw [want_wanted he hw]
      exact ⟨famOf Pd, fun j _ x hx => hS j x hx, fun j T hT => hP (j, T) hT w hC, k _ w (he.put (d := some s) (dstOk_lt hd)) hC _ (fun _ _ h => h)⟩⟩
theorem JN.bcase {Q : Act → World → Prop} {s : Nat} {b : Bool} (ht : b = true → JN P N ((s, .bool true) :: E) Pd C ops Q L) (hf : b = false → JN P N ((s, .bool false) :: E) Pd C ops Q L) : JN P N ((s, .bool b) :: E) Pd C ops Q L := by
  cases b
  · exact hf rfl
  · exact ht rfl
theorem JN.val {Q : Act → World → Prop} {s : Nat} {v v' : Value} (h : v = v') (hj : JN P N ((s, v') :: E) Pd C ops Q L) : JN P N ((s, v) :: E) Pd C ops Q L := h ▸ hj
theorem JN.conv {Q : Act → World → Prop} (h : ∀ w, C w → D w) (hj : JN P N E Pd D ops Q L) : JN P N E Pd C ops Q L := fun a w he hC => hj a w he (h w hC)
def mixN (P : Program) (ops : Array Oper) (j : Nat) (S : Fam) (Q : Act → World → Prop) (L : List (Bool × Nat)) : Exit → Act → World → Prop
  | .normal, a, w => within2 .any ops j S (wpCert2 P .any ops Q L) a w
  | _, _, _ => False
/-- An operation that comes up alone: any rule of a region in order serves. -/
theorem JN.eff {Q : Act → World → Prop} {i : Nat} {o : Oper} (ho : ops[i]? = some o) (h : ∀ S : Fam, (∀ j x, famOf Pd j x → S j x) → J N E C (wpList P ops (mixN P ops i S Q L) [o])) : JN P N E Pd C ops Q ((false, i) :: L) := fun a w he hC S hS => by
  have h' := h S hS a w he hC
  refine ⟨o, ho, ?_⟩
  unfold wpList at h'
  split
  · rename_i hw
    rw [if_pos hw] at h'
    rcases h' with h' | ⟨_, _, _, h'⟩
    · refine wp_imp (fun _ _ h => ?_) (fun _ _ _ h => h.elim) (fun ⟨_, _, h⟩ => h.elim) h'
      simpa [wpList, mixN] using h
    · exact h'.elim
  · rename_i hw
    rw [if_neg hw] at h'
    simpa [wpList, mixN] using h'
/-- Behind it: what it needed is held no more; what is still held holds. -/
inductive Keep (ops : Array Oper) (j : Nat) (C : World → Prop) : List (Nat × (World → Prop)) → List (Nat × (World → Prop)) → Prop
  | nil : Keep ops j C [] []
  | drop {i T Pd Pd'} : depB .any ops j i = true → Keep ops j C Pd Pd' → Keep ops j C ((i, T) :: Pd) Pd'
  | keep {i T Pd Pd'} : (∀ w, C w → T w) → Keep ops j C Pd Pd' → Keep ops j C ((i, T) :: Pd) ((i, T) :: Pd')
theorem Keep.holds {j : Nat} {Pd Pd' : List (Nat × (World → Prop))} (h : Keep ops j C Pd Pd') : ∀ w, C w → ∀ i, famOf Pd' i w := by
  induction h with
  | nil => intro w _ i T hT; cases hT
  | drop _ _ ih => exact ih
  | @keep i0 T Pd Pd' h1 _ ih =>
    intro w hw i U hU
    rcases List.mem_cons.1 hU with hU | hU
    · injection hU with e1 e2; subst e2; exact h1 w hw
    · exact ih w hw i U hU
theorem Keep.sub {j : Nat} {Pd Pd' : List (Nat × (World → Prop))} (h : Keep ops j C Pd Pd') : ∀ i, depB .any ops j i = false → ∀ w, famOf Pd' i w → famOf Pd i w := by
  induction h with
  | nil => intro i _ w _ T hT; cases hT
  | @drop i0 T Pd Pd' h1 _ ih =>
    intro i hi w hw U hU
    rcases List.mem_cons.1 hU with hU | hU
    · injection hU with e1 e2; subst e1; rw [h1] at hi; cases hi
    · exact ih i hi w hw U hU
  | @keep i0 T Pd Pd' h1 _ ih =>
    intro i hi w hw U hU
    rcases List.mem_cons.1 hU with hU | hU
    · exact hw U (by rw [hU]; exact .head _)
    · exact ih i hi w (fun V hV => hw V (.tail _ hV)) U hU
theorem JN.next {Q : Act → World → Prop} {j : Nat} {S : Fam} {Pd' : List (Nat × (World → Prop))} (hS : ∀ j x, famOf Pd j x → S j x) (hk : Keep ops j C Pd Pd') (k : JN P N E Pd' C ops Q L) : J N E C (wpList P ops (mixN P ops j S Q L) []) := fun a w he hw =>
  ⟨famOf Pd', fun i hi x hx => hS i x (hk.sub i hi x hx), hk.holds w hw, k a w he hw _ (fun _ _ h => h)⟩
end
end Go.Sb
