/- One rule for each operation of the walk. Over any program. -/
import Derived.Test.YtdpfdpmjnifanaaDoorWalk
import Derived.StillTail
namespace Go.Sb
open Go Go.RowKit
set_option linter.unusedSimpArgs false
set_option linter.unusedVariables false

def want (ops : Array Oper) (E : En) (o : Oper) : Option Bool :=
  match o.guard with
  | none => some true
  | some (j, b) => match (ops[j]?).bind (·.dst) with
    | some t => match look E t with
      | some (.bool c) => some (c == b)
      | some (.tuple _) => some false
      | _ => none
    | none => none
def dstOk (N : Nat) : Option Tmp → Bool
  | none => true
  | some t => Nat.blt t N
theorem dstOk_lt {N : Nat} {d : Option Tmp} (h : dstOk N d = true) : ∀ t, d = some t → t < N := by
  rintro t rfl
  simpa [dstOk, Nat.blt_eq] using h
theorem want_wanted {ops : Array Oper} {N : Nat} {E : En} {a : Act} {o : Oper} {b : Bool} (he : Env N a E) (h : want ops E o = some b) : Region.wanted o (yielded ops a.tmps) = b := by
  unfold want at h
  unfold Region.wanted
  cases hg : o.guard with
  | none => rw [hg] at h; simpa using h
  | some x =>
    obtain ⟨j, c⟩ := x
    rw [hg] at h
    simp only at h ⊢
    cases ht : (ops[j]?).bind (·.dst) with
    | none => rw [ht] at h; cases h
    | some t =>
      rw [ht] at h
      simp only at h
      cases hl : look E t with
      | none => rw [hl] at h; cases h
      | some v =>
        rw [hl] at h
        have := he.at_ t _ hl
        cases v <;> first | (cases h; done) | skip
        · simp only [Option.some.injEq] at h
          simp only [yielded, ht, Option.bind_some, this]
          subst h
          simp [BEq.comm]
        · simp only [Option.some.injEq] at h
          simp only [yielded, ht, Option.bind_some, this]
          subst h
          rfl

variable {P : Program} {N : Nat} {E : En} {C D : World → Prop} {Q : Exit → Act → World → Prop} {ops : Array Oper} {rest : List Oper} {o : Oper}

/-! ### The steps: in a region that keeps its order, in one that draws it -/
theorem J.region {id : Nat} {l : List Oper} (h : J N E C (wpList P l.toArray Q l)) : J N E C ((Code.region id l.toArray false).wp P Q) := fun a w he hw => wp_region_lit (h a w he hw)
theorem J.done (h : J N E C (Q .normal)) : J N E C (wpList P ops Q []) := fun a w he hw => wpList_nil (h a w he hw)
theorem J.pass {s : Nat} {op : Op} {t : TypeId} {pos : String} {aft : Array Edge} {g : Option (Nat × Bool)} (hw : want ops E ⟨some s, op, t, pos, aft, g⟩ = some false) (hd : dstOk N (some s) = true) (k : J N ((s, undef) :: E) C (wpList P ops Q rest)) :
    J N E C (wpList P ops Q (⟨some s, op, t, pos, aft, g⟩ :: rest)) := fun a w he hC =>
  wpList_step fun K hK => by
    rw [want_wanted he hw]
    exact hK _ _ (k _ w (he.put (d := some s) (dstOk_lt hd)) hC)
/-- A step that may turn the world; what it leaves may hang on a choice x. -/
theorem J.step {α : Type} (v : α → Value) (D : α → World → Prop) (hw : want ops E o = some true) (hd : dstOk N o.dst = true)
    (h : ∀ a w, Env N a E → C w → ∃ x w', (execOp a.eval o).run P w = .ok (.value (v x)) w' ∧ D x w') (k : ∀ x, J N (putE E o.dst (v x)) (D x) (wpList P ops Q rest)) : J N E C (wpList P ops Q (o :: rest)) := fun a w he hC =>
  wpList_step fun K hK => by
    rw [want_wanted he hw]
    obtain ⟨x, w', hr, hD⟩ := h a w he hC
    simp only [if_true, Oper.wp, hr, Oper.upon]
    exact hK _ _ (k x _ w' (he.put (dstOk_lt hd)) hD)
theorem J.stepU (hw : want ops E o = some true) (hd : dstOk N o.dst = true)
    (h : ∀ a w, Env N a E → C w → ∃ w', (execOp a.eval o).run P w = .ok .skip w' ∧ D w') (k : J N (putE E o.dst undef) D (wpList P ops Q rest)) : J N E C (wpList P ops Q (o :: rest)) := fun a w he hC =>
  wpList_step fun K hK => by
    rw [want_wanted he hw]
    obtain ⟨w', hr, hD⟩ := h a w he hC
    simp only [if_true, Oper.wp, hr, Oper.upon]
    exact hK _ _ (k _ w' (he.put (dstOk_lt hd)) hD)
/-- WHAT AN OPERATION READS OR RECKONS: it leaves the world as it is. -/
def Rd (P : Program) (N : Nat) (E : En) (C : World → Prop) (o : Oper) (v : Value) : Prop := ∀ a w, Env N a E → C w → (execOp a.eval o).run P w = .ok (.value v) w
theorem J.rd {v : Value} {s : Nat} {op : Op} {t : TypeId} {pos : String} {aft : Array Edge} {g : Option (Nat × Bool)} (hr : Rd P N E C ⟨some s, op, t, pos, aft, g⟩ v) (hw : want ops E ⟨some s, op, t, pos, aft, g⟩ = some true) (hd : dstOk N (some s) = true)
    (k : J N ((s, v) :: E) C (wpList P ops Q rest)) : J N E C (wpList P ops Q (⟨some s, op, t, pos, aft, g⟩ :: rest)) :=
  J.step (α := Unit) (fun _ => v) (fun _ => C) hw hd (fun a w he hC => ⟨(), w, hr a w he hC, hC⟩) (fun _ => k)

/-- The judgement in a region that draws its order. -/
def JQ (P : Program) (N : Nat) (E : En) (C : World → Prop) (ops : Array Oper) (Q : Act → Prop) (l : List Oper) : Prop := ∀ a, Env N a E → wpQuiet P ops C Q l a
theorem J.draw {id : Nat} {l : List Oper} (hm : P.follows .mixedOrders = true) (hB : Region.lexB .any l.toArray = true) (hC : ∀ w n, C w → C { w with drawn := n })
    (h : JQ P N E C l.toArray (fun a' => ∀ w', C w' → Q .normal a' w') l) : J N E C ((Code.region id l.toArray true).wp P Q) := fun a w he hw =>
  wp_region_quiet (C := C) hm hB (hC w _ hw) (by simpa using h a he)
theorem JQ.done {Q' : Exit → Act → World → Prop} (h : J N E C (Q' .normal)) : JQ P N E C ops (fun a' => ∀ w', C w' → Q' .normal a' w') [] := fun a he => fun w' hw' => h a w' he hw'
theorem JQ.pass {Q : Act → Prop} {s : Nat} {op : Op} {t : TypeId} {pos : String} {aft : Array Edge} {g : Option (Nat × Bool)} (hw : want ops E ⟨some s, op, t, pos, aft, g⟩ = some false) (hd : dstOk N (some s) = true) (k : JQ P N ((s, undef) :: E) C ops Q rest) :
    JQ P N E C ops Q (⟨some s, op, t, pos, aft, g⟩ :: rest) := fun a he =>
  wpQuiet_step fun K hK => by
    rw [want_wanted he hw]
    exact hK _ (k _ (he.put (d := some s) (dstOk_lt hd)))
theorem JQ.rd {Q : Act → Prop} {v : Value} {s : Nat} {op : Op} {t : TypeId} {pos : String} {aft : Array Edge} {g : Option (Nat × Bool)} (hr : Rd P N E C ⟨some s, op, t, pos, aft, g⟩ v) (hw : want ops E ⟨some s, op, t, pos, aft, g⟩ = some true)
    (hd : dstOk N (some s) = true) (k : JQ P N ((s, v) :: E) C ops Q rest) : JQ P N E C ops Q (⟨some s, op, t, pos, aft, g⟩ :: rest) := fun a he =>
  wpQuiet_step fun K hK => by
    rw [want_wanted he hw]
    exact ⟨v, fun w hC => by simp [Oper.quietAt, hr a w he hC, Oper.quietUpon], hK _ (k _ (he.put (d := some s) (dstOk_lt hd)))⟩
theorem JQ.bcase {Q : Act → Prop} {s : Nat} {b : Bool} (ht : b = true → JQ P N ((s, .bool true) :: E) C ops Q rest) (hf : b = false → JQ P N ((s, .bool false) :: E) C ops Q rest) : JQ P N ((s, .bool b) :: E) C ops Q rest := by
  cases b
  · exact hf rfl
  · exact ht rfl
theorem JQ.val {Q : Act → Prop} {s : Nat} {v v' : Value} (h : v = v') (hj : JQ P N ((s, v') :: E) C ops Q rest) : JQ P N ((s, v) :: E) C ops Q rest := h ▸ hj

/-! ### A region that draws the order of its reads; the rest comes behind them all, in the text's order -/
def JS (P : Program) (N : Nat) (E : En) (C : World → Prop) (w0 : World) (ops : Array Oper) (Q : Act → Prop) (l : List Oper) : Prop := ∀ a, Env N a E → C w0 → wpStill P ops w0 Q l a
theorem J.drawTail {id : Nat} {l : List Oper} (n : Nat) (hm : P.follows .mixedOrders = true) (hB : Region.lexTailB .any l.toArray n = true) (hC : ∀ w n, C w → C { w with drawn := n })
    (h : ∀ w0, JS P N E C w0 l.toArray (fun a' => wpList P l.toArray Q (l.drop n) a' w0) (l.take n)) : J N E C ((Code.region id l.toArray true).wp P Q) := fun a w he hw =>
  wp_region_still_tail n hm hB (h { w with drawn := w.drawn + 1 } a he (hC w _ hw))
theorem JS.done {w0 : World} {l : List Oper} (h : J N E C (wpList P ops Q l)) : JS P N E C w0 ops (fun a' => wpList P ops Q l a' w0) [] := fun a he hC => wpStill_nil (h a w0 he hC)
theorem JS.pass {w0 : World} {Q : Act → Prop} {s : Nat} {op : Op} {t : TypeId} {pos : String} {aft : Array Edge} {g : Option (Nat × Bool)} (hw : want ops E ⟨some s, op, t, pos, aft, g⟩ = some false) (hd : dstOk N (some s) = true) (k : JS P N ((s, undef) :: E) C w0 ops Q rest) :
    JS P N E C w0 ops Q (⟨some s, op, t, pos, aft, g⟩ :: rest) := fun a he hC => by
  unfold wpStill
  rw [want_wanted he hw]
  exact k _ (he.put (d := some s) (dstOk_lt hd)) hC
theorem JS.rd {w0 : World} {Q : Act → Prop} {v : Value} {s : Nat} {op : Op} {t : TypeId} {pos : String} {aft : Array Edge} {g : Option (Nat × Bool)} (hr : Rd P N E C ⟨some s, op, t, pos, aft, g⟩ v) (hw : want ops E ⟨some s, op, t, pos, aft, g⟩ = some true)
    (hd : dstOk N (some s) = true) (k : JS P N ((s, v) :: E) C w0 ops Q rest) : JS P N E C w0 ops Q (⟨some s, op, t, pos, aft, g⟩ :: rest) := fun a he hC => by
  unfold wpStill
  rw [want_wanted he hw]
  simp only [if_true, Oper.still, hr a w0 he hC, Oper.stillUpon]
  exact ⟨trivial, k _ (he.put (d := some s) (dstOk_lt hd)) hC⟩
theorem JS.bcase {w0 : World} {Q : Act → Prop} {s : Nat} {b : Bool} (ht : b = true → JS P N ((s, .bool true) :: E) C w0 ops Q rest) (hf : b = false → JS P N ((s, .bool false) :: E) C w0 ops Q rest) : JS P N ((s, .bool b) :: E) C w0 ops Q rest := by
  cases b
  · exact hf rfl
  · exact ht rfl
theorem JS.val {w0 : World} {Q : Act → Prop} {s : Nat} {v v' : Value} (h : v = v') (hj : JS P N ((s, v') :: E) C w0 ops Q rest) : JS P N ((s, v) :: E) C w0 ops Q rest := h ▸ hj

/-! ### What each operation reads or reckons -/
section
variable {d : Option Tmp} {x y z : Operand} {t ty : TypeId} {pos : String} {aft : Array Edge} {g : Option (Nat × Bool)} {v vx vy : Value}
theorem Rd.move (hx : evE E x = some v) : Rd P N E C ⟨d, .move x, t, pos, aft, g⟩ v := fun a w he _ => by
  simp only [execOp, he.eval hx]; rfl
theorem Rd.assign (hx : evE E x = some v) : Rd P N E C ⟨d, .assign x, t, pos, aft, g⟩ v := fun a w he _ => by
  simp only [execOp, he.eval hx]; rfl
theorem Rd.pickT (hx : evE E x = some (.bool true)) (hy : evE E y = some v) : Rd P N E C ⟨d, .pick x y z, t, pos, aft, g⟩ v := fun a w he _ => by
  simp only [execOp, he.eval hx, he.eval hy]; rfl
theorem Rd.pickF (hx : evE E x = some (.bool false)) (hy : evE E z = some v) : Rd P N E C ⟨d, .pick x y z, t, pos, aft, g⟩ v := fun a w he _ => by
  simp only [execOp, he.eval hx, he.eval hy]; rfl
theorem Rd.pickTF {b : Bool} (hx : evE E x = some (.bool b)) (hy : evE E y = some (.bool true)) (hz : evE E z = some (.bool false)) : Rd P N E C ⟨d, .pick x y z, t, pos, aft, g⟩ (.bool b) := fun a w he _ => by
  simp only [execOp, he.eval hx, he.eval hy, he.eval hz]; cases b <;> rfl
theorem Rd.pickBB {b b1 b2 : Bool} (hx : evE E x = some (.bool b)) (hy : evE E y = some (.bool b1)) (hz : evE E z = some (.bool b2)) : Rd P N E C ⟨d, .pick x y z, t, pos, aft, g⟩ (.bool (if b then b1 else b2)) := fun a w he _ => by
  simp only [execOp, he.eval hx, he.eval hy, he.eval hz]; cases b <;> rfl
theorem Rd.bin {op : BinOp} (hx : evE E x = some vx) (hy : evE E y = some vy) (hg : eqGuard op t x y vx vy = pure ()) (hr : ∀ w, (binOp op t vx vy).run P w = .ok v w) : Rd P N E C ⟨d, .binOp op t x y ty, ty, pos, aft, g⟩ v := fun a w he _ => by
  simp only [execOp, he.eval hx, he.eval hy]
  simp [hg, hr]
theorem Rd.bin' {op : BinOp} {ty' : TypeId} (hx : evE E x = some vx) (hy : evE E y = some vy) (hg : eqGuard op t x y vx vy = pure ()) (hr : ∀ w, (binOp op t vx vy).run P w = .ok v w) : Rd P N E C ⟨d, .binOp op t x y ty', ty, pos, aft, g⟩ v := fun a w he _ => by
  simp only [execOp, he.eval hx, he.eval hy]
  simp [hg, hr]
theorem Rd.un {op : UnOp} (hx : evE E x = some vx) (hr : ∀ w, (Op.unary op vx).run P w = .ok v w) : Rd P N E C ⟨d, .unOp op ty x, t, pos, aft, g⟩ v := fun a w he _ => by
  simp only [execOp, he.eval hx]
  simp [hr]
theorem Rd.convI {src dst : TypeId} {k k' : IntKind} {n : Int} {ds : TypeDesc} (hx : evE E x = some (.int k' n)) (hs : P.underlying src = some ds) (hd : P.underlying dst = some (.int k)) : Rd P N E C ⟨d, .convert src dst x, t, pos, aft, g⟩ (.int k (k.wrap n)) := fun a w he _ => by
  simp only [execOp, he.eval hx, convert]
  simp [run_underlying hs, run_underlying hd, Conv.intToInt]
theorem Rd.convS {src dst : TypeId} {s : ByteArray} (hx : evE E x = some (.string s)) (hs : P.underlying src = some .string) (hd : P.underlying dst = some .string) : Rd P N E C ⟨d, .convert src dst x, t, pos, aft, g⟩ (.string s) := fun a w he _ => by
  simp only [execOp, he.eval hx, convert]
  simp [run_underlying hs, run_underlying hd]
theorem Rd.nilCheck {a' : Addr} (hx : evE E x = some (.pointer (some a'))) : Rd P N E C ⟨d, .nilCheck x, t, pos, aft, g⟩ (.pointer (some a')) := fun a w he _ => by
  simp only [execOp, he.eval hx]; rfl
theorem Rd.field {fs : Array Field} {f : Field} {i b off n : Nat} {j : TypeInfo} (hx : evE E x = some (.pointer (some ⟨b, off, none⟩))) (ht : P.underlying ty = some (.struct fs)) (hf : fs[i]? = some f)
    (hj : P.info? f.type = some j) (hn : j.size ≠ 0) (ho : off + f.offset = n) : Rd P N E C ⟨d, .fieldAddr ty x i, t, pos, aft, g⟩ (.pointer (some ⟨b, n, none⟩)) := fun a w he _ => by
  subst ho
  simp only [execOp, he.eval hx, Instr.fieldAt]
  have hadd : Addr.add ⟨b, off, none⟩ f.offset = ⟨b, off + f.offset, none⟩ := by unfold Addr.add; split <;> simp_all
  simp [run_underlying ht, hf, Instr.sureAddr, fieldPlace, sizeOf, typeInfo, hj, hn, hadd]
/-- The value at a place of a list that is written out. -/
class LGet (l : List Value) (i : Nat) (v : outParam Value) : Prop where
  eq : l[i]? = some v
instance LGet.zero {x : Value} {l : List Value} : LGet (x :: l) 0 x := ⟨rfl⟩
instance LGet.succ {x v : Value} {l : List Value} {n : Nat} [h : LGet l n v] : LGet (x :: l) (n + 1) v := ⟨by simpa using h.eq⟩
theorem Rd.extract {vs : Array Value} {i : Nat} (hx : evE E x = some (.tuple vs)) (hv : vs[i]? = some v) : Rd P N E C ⟨d, .extract x i, t, pos, aft, g⟩ v := fun a w he _ => by
  simp only [execOp, he.eval hx, Instr.extract, hv]; rfl
theorem Rd.extractL {i : Nat} {l : List Value} (hx : evE E x = some (.tuple l.toArray)) [h : LGet l i v] : Rd P N E C ⟨d, .extract x i, t, pos, aft, g⟩ v := Rd.extract hx (by simpa using h.eq)
theorem Rd.iface {ds : TypeDesc} (hx : evE E x = some vx) (ht : P.underlying ty = some ds) (hi : (match ds with | .interface _ => false | _ => true) = true) : Rd P N E C ⟨d, .makeInterface ty x, t, pos, aft, g⟩ (.iface ty vx) := fun a w he _ => by
  simp only [execOp, he.eval hx, Instr.makeInterface]
  cases ds <;> first | (simp at hi; done) | simp [run_underlying ht]
theorem Rd.lenStr {s : ByteArray} {at_ : Array TypeId} (hx : evE E x = some (.string s)) (hat : at_[0]? = some ty) (ht : P.underlying ty = some .string) : Rd P N E C ⟨d, .call ⟨.builtin .len, #[x], at_⟩, t, pos, aft, g⟩ (.int .i64 s.size) := fun a w he _ => by
  simp [execOp, resolve, invoke, builtin, Builtin.len_, hat, he.eval hx, run_underlying ht, goInt]
theorem Rd.lenSl {b : Option Addr} {n c : Nat} {e : TypeId} {at_ : Array TypeId} (hx : evE E x = some (.slice b n c)) (hat : at_[0]? = some ty) (ht : P.underlying ty = some (.slice e)) : Rd P N E C ⟨d, .call ⟨.builtin .len, #[x], at_⟩, t, pos, aft, g⟩ (.int .i64 n) := fun a w he _ => by
  simp [execOp, resolve, invoke, builtin, Builtin.len_, hat, he.eval hx, run_underlying ht, goInt]
/-- A cell is loaded, of a type that is no struct and no array. -/
theorem Rd.load {ad : Addr} {ds : TypeDesc} (hx : evE E x = some (.pointer (some ad))) (ht : P.underlying ty = some ds) (hi : (match ds with | .struct _ | .array _ _ => false | _ => true) = true)
    (hc : ∀ w, C w → w.cell? ad = some v) : Rd P N E C ⟨d, .load ty x, t, pos, aft, g⟩ v := fun a w he hC => by
  simp only [execOp, he.eval hx, Instr.loadAt]
  have := hc w hC
  cases ds <;> first | (simp at hi; done) | simp [Instr.sureAddr, loadVar, isAgg, run_underlying ht, this]
theorem Rd.indexStr {s : ByteArray} {k : IntKind} {i : Nat} {c : UInt8} (hx : evE E x = some (.string s)) (hy : evE E y = some (.int k (i : Int))) (ht : P.underlying ty = some .string) (hc : s.data[i]? = some c) : Rd P N E C ⟨d, .index ty x y, t, pos, aft, g⟩ (.int .u8 c.toNat) := fun a w he _ => by
  have hlt : i < s.size := (Array.getElem?_eq_some_iff.1 hc).1
  have h1 : s[i]? = some c := by
    rw [getElem?_pos s i hlt]
    exact congrArg some (Array.getElem?_eq_some_iff.1 hc).2
  simp only [execOp, he.eval hx, he.eval hy, Instr.index]
  simp [asIntOf, run_underlying ht, h1]
theorem Rd.indexSl {b : Addr} {n c i sz : Nat} {e : TypeId} {j : TypeInfo} {k : IntKind} (hx : evE E x = some (.slice (some b) n c)) (hy : evE E y = some (.int k (i : Int))) (ht : P.underlying ty = some (.slice e)) (hj : P.info? e = some j) (hs : j.size = sz) (hi : i < n) :
    Rd P N E C ⟨d, .indexAddr ty x y, t, pos, aft, g⟩ (.pointer (some (b.add (i * sz)))) := fun a w he _ => by
  subst hs
  simp only [execOp, he.eval hx, he.eval hy, Instr.indexAt]
  simp [asIntOf, run_underlying ht, sizeOf, typeInfo, hj, hi]
theorem Rd.indexArr {b : Addr} {n i sz : Nat} {e : TypeId} {j : TypeInfo} {k : IntKind} (hx : evE E x = some (.pointer (some b))) (hy : evE E y = some (.int k (i : Int))) (ht : P.underlying ty = some (.array n e)) (hj : P.info? e = some j) (hs : j.size = sz) (hi : i < n) :
    Rd P N E C ⟨d, .indexAddr ty x y, t, pos, aft, g⟩ (.pointer (some (b.add (i * sz)))) := fun a w he _ => by
  subst hs
  simp only [execOp, he.eval hx, he.eval hy, Instr.indexAt]
  simp [asIntOf, run_underlying ht, sizeOf, typeInfo, hj, hi, Instr.sureAddr]
end
end Go.Sb
