/- The rules once more, with what is known of types in one word each. Over any program. -/
import Derived.Test.YtdpfdpmjnifanaaDoorCall
import Derived.Laws.IdiomStrings
import Derived.Laws.Pointers
namespace Go.Sb
open Go Go.RowKit
set_option linter.unusedSimpArgs false
set_option linter.unusedVariables false

/-- What is known of a type: its cells, its bytes, its zero value. -/
def TI (P : Program) (e sz bytes : Nat) (z : Value) : Prop := ∃ j, P.info? e = some j ∧ j.size = sz ∧ j.bytes = bytes ∧ j.zero = some z
theorem TI.of {P : Program} {e sz bytes : Nat} {z : Value} (h : (P.info? e).map (fun i => (i.zero, i.size, i.bytes)) = some (some z, sz, bytes)) : TI P e sz bytes z := by
  obtain ⟨i, hi, hzz⟩ := Option.map_eq_some_iff.1 h
  simp only [Prod.mk.injEq] at hzz
  exact ⟨i, hi, hzz.2.1, hzz.2.2, hzz.1⟩
/-- Field i of a struct type lies so many cells behind its beginning. -/
def FD (P : Program) (t i off : Nat) : Prop := ∃ fs f j, P.underlying t = some (.struct fs) ∧ fs[i]? = some f ∧ P.info? f.type = some j ∧ j.size ≠ 0 ∧ f.offset = off
theorem FD.of {P : Program} {t i off : Nat} {fs : Array Field} (ht : P.underlying t = some (.struct fs)) (h : ((fs[i]?).bind fun f => (P.info? f.type).map fun j => (f.offset, j.size != 0)) = some (off, true)) : FD P t i off := by
  obtain ⟨f, hf, h2⟩ := Option.bind_eq_some_iff.1 h
  obtain ⟨j, hj, h3⟩ := Option.map_eq_some_iff.1 h2
  simp only [Prod.mk.injEq] at h3
  exact ⟨fs, f, j, ht, hf, hj, by simpa using h3.2, h3.1⟩

variable {P : Program} {N : Nat} {E : En} {Z : World} {L : List HP} {F : HP → List HP} {C D : World → Prop} {Q : Exit → Act → World → Prop} {ops : Array Oper} {rest : List Oper}
section
variable {d : Option Tmp} {x y z : Operand} {t ty u : TypeId} {pos : String} {aft : Array Edge} {g : Option (Nat × Bool)} {v vx vy : Value}
theorem Rd.fld {i b off : Nat} (fd : FD P ty i off) (hx : evE E x = some (.pointer (some ⟨b, 0, none⟩))) : Rd P N E C ⟨d, .fieldAddr ty x i, t, pos, aft, g⟩ (.pointer (some ⟨b, off, none⟩)) := by
  obtain ⟨fs, f, j, h1, h2, h3, h4, rfl⟩ := fd
  exact Rd.field hx h1 h2 h3 h4 (Nat.zero_add _)
theorem Rd.fldAt {i b o n off : Nat} (fd : FD P ty i off) (hx : evE E x = some (.pointer (some ⟨b, o, none⟩))) (hn : o + off = n) : Rd P N E C ⟨d, .fieldAddr ty x i, t, pos, aft, g⟩ (.pointer (some ⟨b, n, none⟩)) := by
  obtain ⟨fs, f, j, h1, h2, h3, h4, rfl⟩ := fd
  exact Rd.field hx h1 h2 h3 h4 hn
theorem J.sto {b i bytes : Nat} {c c' : List Value} {T : TypeId} {zv : Value} (ti : TI P ty 1 bytes zv) (hx : evE E x = some (.pointer (some ⟨b, i, none⟩))) (hy : evE E y = some v) [HasP b L (.cells c.toArray T (0, 0)) F] [LSet c i v c']
    (h1 : v.oneCell' = true) (hw : want ops E ⟨none, .store ty x y, t, pos, aft, g⟩ = some true)
    (k : J N E (Sto Z (F (pts b (.cells c'.toArray T (0, 0))))) (wpList P ops Q rest)) : J N E (Sto Z L) (wpList P ops Q (⟨none, .store ty x y, t, pos, aft, g⟩ :: rest)) := by
  obtain ⟨j, h2, h3, _, _⟩ := ti
  exact J.store hx hy h2 h3 h1 hw k
theorem J.app {s e sz n m bytes : Nat} {xs news : List Value} {zv : Value} {du : TypeDesc} (ti : TI P e sz bytes zv) (ht : P.underlying t = some (.slice e)) (hu : P.underlying u = some du) (hdu : (∃ e', du = .slice e') ∨ du = .string)
    (hx : evE E x = some v) (hy : evE E y = some vy) [HasO v L e sz n xs F]
    (hsrc : ∀ w, St Z w L → Src P w vy m sz news) (h1 : ∀ c ∈ news, c.oneCell' = true) (hfit : (n + m) * bytes ≤ 140737488355328) (h63 : n + m ≤ 4611686018427387904) (hzs : zv.cells.size = sz) (hpos : 0 < sz)
    (hw : want ops E ⟨some s, .call ⟨.builtin .append, #[x, y], #[t, u]⟩, ty, pos, aft, g⟩ = some true) (hd : dstOk N (some s) = true)
    (k : ∀ b' c', J N ((s, .slice b' (n + m) c') :: E) (Sto Z (F (own e sz (.slice b' (n + m) c') (n + m) (xs ++ news)))) (wpList P ops Q rest)) :
    J N E (Sto Z L) (wpList P ops Q (⟨some s, .call ⟨.builtin .append, #[x, y], #[t, u]⟩, ty, pos, aft, g⟩ :: rest)) := by
  obtain ⟨j, h2, h3, h4, h5⟩ := ti
  exact J.append hx hy ht hu hdu h2 h5 h3 hzs h4 hpos h1 hfit h63 hsrc hw hd k
/-- One element, that lies in a new block: the block is let go. -/
theorem J.app1 {s e n bytes b c : Nat} {xs : List Value} {zv u1 : Value} {L' : List HP} (ti : TI P e 1 bytes zv) (ht : P.underlying t = some (.slice e))
    (hx : evE E x = some v) (hy : evE E y = some (.slice (some ⟨b, 0, none⟩) 1 c)) [hb : RemP b L (.cells [u1].toArray e (0, 0)) L'] [HasO v L' e 1 n xs F]
    (h1 : u1.oneCell' = true) (hfit : (n + 1) * bytes ≤ 140737488355328) (h63 : n + 1 ≤ 4611686018427387904) (hzs : zv.cells.size = 1)
    (hw : want ops E ⟨some s, .call ⟨.builtin .append, #[x, y], #[t, t]⟩, ty, pos, aft, g⟩ = some true) (hd : dstOk N (some s) = true)
    (k : ∀ b' c', J N ((s, .slice b' (n + 1) c') :: E) (Sto Z (F (own e 1 (.slice b' (n + 1) c') (n + 1) (xs ++ [u1])))) (wpList P ops Q rest)) :
    J N E (Sto Z L) (wpList P ops Q (⟨some s, .call ⟨.builtin .append, #[x, y], #[t, t]⟩, ty, pos, aft, g⟩ :: rest)) := by
  obtain ⟨j, h2, h3, h4, h5⟩ := ti
  refine J.step (α := Option Addr × Nat) (fun q => .slice q.1 (n + 1) q.2) (fun q => Sto Z (F (own e 1 (.slice q.1 (n + 1) q.2) (n + 1) (xs ++ [u1])))) hw hd (fun a w he hC => ?_) (fun q => k q.1 q.2)
  have h6 : St Z w (pts b (.cells [u1].toArray e (0, 0)) :: L') := St.perm hC hb.perm
  have h7 : w.heap[b]? = some (.cells [u1].toArray e (0, 0)) := h6.block0
  obtain ⟨L1, h8, h9⟩ := St.hasO (v := v) h6.drop0
  obtain ⟨v', w', hr, hst⟩ := run_append (P := P) (ty := ty) (u := t) (x := .slice (some ⟨b, 0, none⟩) 1 c) (m := 1) (news := [u1]) ht ht (.inl ⟨_, rfl⟩) h2 h5 h3 hzs h4 (by omega) (by simpa using h1) hfit h63 h8 (Src.row h7 rfl)
  obtain ⟨b', c', rfl⟩ := St.ownVal (v := v') hst
  refine ⟨(b', c'), w', ?_, hst.perm (h9 _)⟩
  simp [execOp, resolve, invoke, builtin, he.eval hx, he.eval hy, hr]
theorem J.appZ {s e n m bytes : Nat} {xs : List Value} {zv : Value} {k' k'' : IntKind} (ti : TI P e 1 bytes zv) (ht : P.underlying t = some (.slice e)) (hu : P.underlying u = some (.int k'')) (hx : evE E x = some v) (hy : evE E y = some (.int k' (m : Int))) [HasO v L e 1 n xs F]
    (hzs : zv.cells = #[zv]) (h1 : zv.oneCell' = true) (hfit : (n + m) * bytes ≤ 140737488355328) (h63 : n + m ≤ 4611686018427387904)
    (hw : want ops E ⟨some s, .call ⟨.builtin .append, #[x, y], #[t, u]⟩, ty, pos, aft, g⟩ = some true) (hd : dstOk N (some s) = true)
    (k : ∀ b' c', J N ((s, .slice b' (n + m) c') :: E) (Sto Z (F (own e 1 (.slice b' (n + m) c') (n + m) (xs ++ List.replicate m zv)))) (wpList P ops Q rest)) :
    J N E (Sto Z L) (wpList P ops Q (⟨some s, .call ⟨.builtin .append, #[x, y], #[t, u]⟩, ty, pos, aft, g⟩ :: rest)) := by
  obtain ⟨j, h2, h3, h4, h5⟩ := ti
  exact J.appendZ hx hy ht hu h2 h5 h3 hzs h4 h1 hfit h63 hw hd k
theorem J.lit1 {s e bytes : Nat} {zv : Value} (ti : TI P e 1 bytes zv) (ht : P.underlying ty = some (.slice e)) (hx : evE E x = some v) (hv : v.cells = #[v]) (_ : zv.cells.size = 1)
    (hw : want ops E ⟨some s, .buildSlice ty 1 #[(0, x)], t, pos, aft, g⟩ = some true) (hd : dstOk N (some s) = true)
    (k : ∀ b, J N ((s, .slice (some ⟨b, 0, none⟩) 1 1) :: E) (Sto Z (pts b (.cells [v].toArray e (0, 0)) :: L)) (wpList P ops Q rest)) : J N E (Sto Z L) (wpList P ops Q (⟨some s, .buildSlice ty 1 #[(0, x)], t, pos, aft, g⟩ :: rest)) := by
  obtain ⟨j, h2, h3, h4, h5⟩ := ti
  refine J.buildSlice (ps := [(0, x)]) (vs := [(0, v)]) (cs := [v]) (by simp [evParts, hx]) ht h2 h5 (by simp [h3]) (by simp [h3]) ?_ hw hd k
  have hr : Array.range (1 * 1) = #[0] := by decide
  simp only [Instr.fill, h3, hv, hr]
  simp
theorem Rd.ld {b i : Nat} {c : List Value} {T : TypeId} {fr : Nat × Nat} {ds : TypeDesc} (ht : P.underlying ty = some ds) (hx : evE E x = some (.pointer (some ⟨b, i, none⟩))) [HasP b L (.cells c.toArray T fr) F] (hv : c[i]? = some v)
    (hi : (match ds with | .struct _ | .array _ _ => false | _ => true) = true) : Rd P N E (Sto Z L) ⟨d, .load ty x, t, pos, aft, g⟩ v := Rd.cell hx hv ht hi
theorem fill1 (zv : Value) (n : Nat) (l : List (Nat × Value)) (cs : Array Value) (hs : cs.size = n) (hl : ∀ p ∈ l, p.1 < n ∧ p.2.cells = #[p.2]) :
    Instr.fill (fun i => some (i, 1)) cs l = some (l.foldl (fun cs p => cs.setIfInBounds p.1 p.2) cs) := by
  induction l generalizing cs with
  | nil => rfl
  | cons p l ih =>
    obtain ⟨i, v⟩ := p
    have h1 := hl (i, v) (by simp)
    simp only at h1
    simp only [Instr.fill, h1.2]
    simp
    exact ⟨by omega, ih _ (by simp [hs]) (fun q hq => hl q (by simp [hq]))⟩
theorem J.litN {s e len bytes : Nat} {xs : List (Nat × Operand)} {vs : List (Nat × Value)} {cs : List Value} {zv : Value} (ti : TI P e 1 bytes zv) (ht : P.underlying ty = some (.slice e)) (hx : evParts E xs = some vs) (hl : ∀ p ∈ vs, p.1 < len ∧ p.2.cells = #[p.2])
    (hlen : 0 < len ∧ len ≤ 16777216) (hcs : vs.foldl (fun cs p => cs.setIfInBounds p.1 p.2) (List.replicate len zv).toArray = cs.toArray) (hz : zv.cells = #[zv])
    (hw : want ops E ⟨some s, .buildSlice ty len xs.toArray, t, pos, aft, g⟩ = some true) (hd : dstOk N (some s) = true)
    (k : ∀ b, J N ((s, .slice (some ⟨b, 0, none⟩) len len) :: E) (Sto Z (pts b (.cells cs.toArray e (0, 0)) :: L)) (wpList P ops Q rest)) : J N E (Sto Z L) (wpList P ops Q (⟨some s, .buildSlice ty len xs.toArray, t, pos, aft, g⟩ :: rest)) := by
  obtain ⟨j, h2, h3, h4, h5⟩ := ti
  refine J.buildSlice (ps := xs) (vs := vs) (cs := cs) hx ht h2 h5 (by simp [h3]; omega) (by simp [h3]; omega) ?_ hw hd k
  have hr : (Array.range (len * 1)).map (fun i => zv.cells[i % zv.cells.size]!) = (List.replicate len zv).toArray := by
    rw [hz]
    apply Array.ext
    · simp
    · intro i h6 h7
      simp [Nat.mod_one]
  have hf := fill1 zv len vs (List.replicate len zv).toArray (by simp) hl
  rw [h3, hr, ← hcs, ← hf]
  simp only [Nat.mul_one]
def pairs {α : Type} : Nat → List α → List (Nat × α)
  | _, [] => []
  | i, x :: l => (i, x) :: pairs (i + 1) l
theorem evParts_pairs {E : En} : ∀ {xs : List Operand} {vs : List Value} (i : Nat), evAll E xs = some vs → evParts E (pairs i xs) = some (pairs i vs)
  | [], vs, i, h => by simp only [evAll, Option.some.injEq] at h; subst h; rfl
  | x :: xs, vs, i, h => by
    simp only [evAll] at h
    cases h1 : evE E x with
    | none => rw [h1] at h; cases h
    | some v =>
      cases h2 : evAll E xs with
      | none => rw [h1, h2] at h; cases h
      | some us =>
        rw [h1, h2] at h
        simp only [Option.some.injEq] at h
        subst h
        simp [pairs, evParts, h1, evParts_pairs (i + 1) h2]
theorem pairs_mem {α : Type} : ∀ {l : List α} {i : Nat} {p : Nat × α}, p ∈ pairs i l → p.1 < i + l.length ∧ p.2 ∈ l
  | [], _, _, h => by cases h
  | x :: l, i, p, h => by
    simp only [pairs, List.mem_cons] at h
    rcases h with rfl | h
    · simp
    · have := pairs_mem h; simp; exact ⟨by omega, .inr this.2⟩
theorem pairs_fold : ∀ (l a b : List Value), b.length = l.length → (pairs a.length l).foldl (fun cs p => cs.setIfInBounds p.1 p.2) (a ++ b).toArray = (a ++ l).toArray
  | [], a, b, h => by
    have : b = [] := List.eq_nil_of_length_eq_zero (by simpa using h)
    simp [pairs, this]
  | x :: l, a, [], h => by simp at h
  | x :: l, a, y :: b, h => by
    have ih := pairs_fold l (a ++ [x]) b (by simpa using h)
    simp only [List.length_append, List.length_cons, List.length_nil, Nat.zero_add, List.append_assoc, List.cons_append, List.nil_append] at ih
    simp only [pairs, List.foldl_cons]
    rw [← ih]
    congr 1
    simp
theorem J.litA {s e bytes len : Nat} {xs : List Operand} {vs : List Value} {zv : Value} (ti : TI P e 1 bytes zv) (ht : P.underlying ty = some (.slice e)) (hx : evAll E xs = some vs) (hl : ∀ v ∈ vs, v.cells = #[v]) (hn : vs.length = len)
    (hlen : 0 < len ∧ len ≤ 16777216) (hz : zv.cells = #[zv])
    (hw : want ops E ⟨some s, .buildSlice ty len (pairs 0 xs).toArray, t, pos, aft, g⟩ = some true) (hd : dstOk N (some s) = true)
    (k : ∀ b, J N ((s, .slice (some ⟨b, 0, none⟩) len len) :: E) (Sto Z (pts b (.cells vs.toArray e (0, 0)) :: L)) (wpList P ops Q rest)) : J N E (Sto Z L) (wpList P ops Q (⟨some s, .buildSlice ty len (pairs 0 xs).toArray, t, pos, aft, g⟩ :: rest)) := by
  subst hn
  refine J.litN (vs := pairs 0 vs) ti ht (evParts_pairs 0 hx) (fun p hp => ?_) hlen ?_ hz hw hd k
  · have := pairs_mem hp; exact ⟨by omega, hl _ this.2⟩
  · exact pairs_fold vs [] (List.replicate vs.length zv) (by simp)
/-- Elements that lie in a new block: the block is let go. -/
theorem J.appB {s e n m bytes b c : Nat} {xs news : List Value} {zv : Value} {L' : List HP} (ti : TI P e 1 bytes zv) (ht : P.underlying t = some (.slice e))
    (hx : evE E x = some v) (hy : evE E y = some (.slice (some ⟨b, 0, none⟩) m c)) [hb : RemP b L (.cells news.toArray e (0, 0)) L'] [HasO v L' e 1 n xs F]
    (hm : news.length = m) (h1 : ∀ u ∈ news, u.oneCell' = true) (hfit : (n + m) * bytes ≤ 140737488355328) (h63 : n + m ≤ 4611686018427387904) (hzs : zv.cells.size = 1)
    (hw : want ops E ⟨some s, .call ⟨.builtin .append, #[x, y], #[t, t]⟩, ty, pos, aft, g⟩ = some true) (hd : dstOk N (some s) = true)
    (k : ∀ b' c', J N ((s, .slice b' (n + m) c') :: E) (Sto Z (F (own e 1 (.slice b' (n + m) c') (n + m) (xs ++ news)))) (wpList P ops Q rest)) :
    J N E (Sto Z L) (wpList P ops Q (⟨some s, .call ⟨.builtin .append, #[x, y], #[t, t]⟩, ty, pos, aft, g⟩ :: rest)) := by
  obtain ⟨j, h2, h3, h4, h5⟩ := ti
  refine J.step (α := Option Addr × Nat) (fun q => .slice q.1 (n + m) q.2) (fun q => Sto Z (F (own e 1 (.slice q.1 (n + m) q.2) (n + m) (xs ++ news)))) hw hd (fun a w he hC => ?_) (fun q => k q.1 q.2)
  have h6 : St Z w (pts b (.cells news.toArray e (0, 0)) :: L') := St.perm hC hb.perm
  have h7 : w.heap[b]? = some (.cells news.toArray e (0, 0)) := h6.block0
  obtain ⟨L1, h8, h9⟩ := St.hasO (v := v) h6.drop0
  obtain ⟨v', w', hr, hst⟩ := run_append (P := P) (ty := ty) (u := t) (x := .slice (some ⟨b, 0, none⟩) m c) (m := m) (news := news) ht ht (.inl ⟨_, rfl⟩) h2 h5 h3 hzs h4 (by omega) h1 hfit h63 h8 (Src.row h7 (by omega))
  obtain ⟨b', c', rfl⟩ := St.ownVal (v := v') hst
  refine ⟨(b', c'), w', ?_, hst.perm (h9 _)⟩
  simp [execOp, resolve, invoke, builtin, he.eval hx, he.eval hy, hr]
theorem J.allocT {s sz bytes : Nat} {cs : List Value} (ti : TI P ty sz bytes v) (hc : v.cells = cs.toArray) (hw : want ops E ⟨some s, .alloc ty, t, pos, aft, g⟩ = some true) (hd : dstOk N (some s) = true)
    (k : ∀ b, J N ((s, .pointer (some ⟨b, 0, none⟩)) :: E) (Sto Z (pts b (.cells cs.toArray ty (0, 0)) :: L)) (wpList P ops Q rest)) : J N E (Sto Z L) (wpList P ops Q (⟨some s, .alloc ty, t, pos, aft, g⟩ :: rest)) := by
  obtain ⟨j, h2, _, _, h5⟩ := ti
  exact J.alloc h2 h5 hw hd (fun b => hc ▸ k b)
theorem Rd.bit {op : BinOp} {k : IntKind} {m n : Int} {ty' : TypeId} (hx : evE E x = some (.int k m)) (hy : evE E y = some (.int k n)) (hop : (match op with | .and | .or | .xor | .andNot => true | _ => false) = true) : Rd P N E C ⟨d, .binOp op t x y ty', ty, pos, aft, g⟩ (.int k (bits op k m n)) :=
  Rd.bin' hx hy (by cases op <;> rfl) (fun w => by cases op <;> first | (simp at hop; done) | (simp [binOp]; rfl))
/-- A pointer against nil. -/
theorem Rd.nilEq {a' : Option Addr} (ht : P.underlying ty = some (.pointer (P.pointee ty))) (hx : evE E x = some (.pointer a')) : Rd P N E C ⟨d, .binOp .eql ty x (.const (.pointer none)) u, t, pos, aft, g⟩ (.bool a'.isNone) := fun a w he _ => by
  simp only [execOp, he.eval hx]
  have : a.eval (.const (.pointer none)) = .pointer none := rfl
  simp [this, eqGuard_at_pointer, run_eql_pointer_nil w _ _ ht]
/-- Sums, differences, products; a reckoning that fits its kind. -/
theorem Rd.quo {k : IntKind} {m n : Int} {ty' : TypeId} (hx : evE E x = some (.int k m)) (hy : evE E y = some (.int k n)) (hn : n ≠ 0) : Rd P N E C ⟨d, .binOp .quo t x y ty', ty, pos, aft, g⟩ (.int k (k.wrap (m.tdiv n))) :=
  Rd.bin' hx hy rfl (fun w => by simp [binOp, Op.intDiv, hn])
theorem Rd.rem {k : IntKind} {m n : Int} {ty' : TypeId} (hx : evE E x = some (.int k m)) (hy : evE E y = some (.int k n)) (hn : n ≠ 0) : Rd P N E C ⟨d, .binOp .rem t x y ty', ty, pos, aft, g⟩ (.int k (m.tmod n)) :=
  Rd.bin' hx hy rfl (fun w => by simp [binOp, Op.intDiv, hn])
theorem Rd.shl {k k' : IntKind} {m i : Int} {n : Nat} {ty' : TypeId} (hx : evE E x = some (.int k m)) (hy : evE E y = some (.int k' i)) (hi : i = (n : Int)) (hn : n ≤ k.bits) : Rd P N E C ⟨d, .binOp .shl t x y ty', ty, pos, aft, g⟩ (.int k (k.wrap (m * 2 ^ n))) :=
  Rd.bin' hx hy rfl (fun w => by subst hi; rw [binOp_shl, shift_shl k k' m n (by omega) (by omega)]; simp)
theorem Rd.shr {k k' : IntKind} {m i : Int} {n : Nat} {ty' : TypeId} (hx : evE E x = some (.int k m)) (hy : evE E y = some (.int k' i)) (hi : i = (n : Int)) (hn : n ≤ k.bits) : Rd P N E C ⟨d, .binOp .shr t x y ty', ty, pos, aft, g⟩ (.int k (m / 2 ^ n)) :=
  Rd.bin' hx hy rfl (fun w => by subst hi; rw [binOp_shr, shift_shr k k' m n (by omega) (by omega)]; simp)
theorem Rd.cat {s s' : ByteArray} {ty' : TypeId} (hx : evE E x = some (.string s)) (hy : evE E y = some (.string s')) (h : s.size + s'.size ≤ 4611686018427387904) : Rd P N E C ⟨d, .binOp .add t x y ty', ty, pos, aft, g⟩ (.string (s ++ s')) :=
  Rd.bin' hx hy rfl (fun w => by
    have : ¬ ((9223372036854775807 : Int) < (s.size : Int) + (s'.size : Int)) := by omega
    simp [binOp, Op.stringOp, this])
end
/-- What a slice that is read alone holds. -/
def SlR (w : World) (v : Value) (xs : List Value) : Prop := ∃ a c, v = .slice a xs.length c ∧ ∀ j u, xs[j]? = some u → ∃ b, a = some b ∧ w.cell? (b.add j) = some u
section
variable {d : Option Tmp} {x y z : Operand} {t ty u : TypeId} {pos : String} {aft : Array Edge} {g : Option (Nat × Bool)} {v vx vy : Value}
theorem Src.slR {w : World} {xs : List Value} (h : SlR w v xs) : Src P w v xs.length 1 xs := by
  obtain ⟨a, c, rfl, hc⟩ := h
  cases a with
  | none =>
    have : xs = [] := by
      cases xs with
      | nil => rfl
      | cons u l => obtain ⟨b, hb, _⟩ := hc 0 u rfl; cases hb
    subst this
    exact Src.none_
  | some b => exact Src.slice (by simp) (fun j u hj => by obtain ⟨b', h1, h2⟩ := hc j u hj; cases h1; exact h2)
theorem Rd.lenR {e : TypeId} {at_ : Array TypeId} {xs : List Value} (ht : P.underlying ty = some (.slice e)) (hx : evE E x = some v) (hr : ∀ w, C w → SlR w v xs) (hat : at_[0]? = some ty) : Rd P N E C ⟨d, .call ⟨.builtin .len, #[x], at_⟩, t, pos, aft, g⟩ (.int .i64 xs.length) := fun a w he hC => by
  obtain ⟨b, c, rfl, _⟩ := hr w hC
  simp [execOp, resolve, invoke, builtin, Builtin.len_, hat, he.eval hx, run_underlying ht, goInt]
theorem J.idxR {s i bytes : Nat} {e : TypeId} {xs : List Value} {k : IntKind} {zv u1 : Value} (ti : TI P e 1 bytes zv) (ht : P.underlying ty = some (.slice e)) (hx : evE E x = some v) (hy : evE E y = some (.int k (i : Int))) (hr : ∀ w, C w → SlR w v xs) (hi : xs[i]? = some u1)
    (hw : want ops E ⟨some s, .indexAddr ty x y, t, pos, aft, g⟩ = some true) (hd : dstOk N (some s) = true)
    (kk : ∀ ad : Addr, (∀ w, C w → w.cell? ad = some u1) → J N ((s, .pointer (some ad)) :: E) C (wpList P ops Q rest)) :
    J N E C (wpList P ops Q (⟨some s, .indexAddr ty x y, t, pos, aft, g⟩ :: rest)) := by
  obtain ⟨j, h2, h3, h4, h5⟩ := ti
  intro a w he hC
  obtain ⟨b0, c, rfl, hc⟩ := hr w hC
  obtain ⟨b, rfl, hcell⟩ := hc i u1 hi
  refine J.rd (Rd.indexSl hx hy ht h2 h3 ((List.getElem?_eq_some_iff.1 hi).1)) hw hd (kk _ ?_) a w he hC
  intro w' hC'
  obtain ⟨b1, c1, hv, hc1⟩ := hr w' hC'
  injection hv with hv
  obtain ⟨b2, h6, h7⟩ := hc1 i u1 hi
  rw [← hv] at h6
  cases h6
  simpa using h7
end
theorem size_mk (a : Array UInt8) : (⟨a⟩ : ByteArray).size = a.size := rfl
/-- A quotient of numbers that aren't below 0. -/
theorem wQ {m n : Int} (h : 0 ≤ m ∧ 0 < n ∧ m ≤ 9223372036854775807) : Value.int .i64 (IntKind.i64.wrap (m.tdiv n)) = .int .i64 (m / n) := by
  rw [Int.tdiv_eq_ediv_of_nonneg h.1, IntWalk.i64_in]
  have h1 : 0 ≤ m / n := Int.ediv_nonneg h.1 (by omega)
  have h2 : m / n ≤ m := Int.ediv_le_self _ h.1
  omega
theorem wR {m n : Int} (h : 0 ≤ m) (k : IntKind) : Value.int k (m.tmod n) = .int k (m % n) := by rw [Int.tmod_eq_emod_of_nonneg h]
theorem wI64 {n : Int} (h : -9223372036854775808 ≤ n ∧ n ≤ 9223372036854775807) : Value.int .i64 (IntKind.i64.wrap n) = .int .i64 n := by rw [IntWalk.i64_in n h]
theorem wU8 {n : Int} (h : 0 ≤ n ∧ n ≤ 255) : Value.int .u8 (IntKind.u8.wrap n) = .int .u8 n := by rw [IntWalk.u8_in n h]
theorem wU32 {n : Int} (h : 0 ≤ n ∧ n ≤ 4294967295) : Value.int .u32 (IntKind.u32.wrap n) = .int .u32 n := by rw [IntWalk.u32_in n h]
theorem wU64 {n : Int} (h : 0 ≤ n ∧ n ≤ 18446744073709551615) : Value.int .u64 (IntKind.u64.wrap n) = .int .u64 n := by rw [IntWalk.u64_in n h]
theorem wI32 {n : Int} (h : -2147483648 ≤ n ∧ n ≤ 2147483647) : Value.int .i32 (IntKind.i32.wrap n) = .int .i32 n := by rw [IntWalk.i32_in n h]
end Go.Sb
