/- Strings: pieces, ranges, conversions; strings.Builder's own operations. Over any program. -/
import Derived.Test.YtdpfdpmjnifanaaDoorKit
import Derived.Lib.Builder
import Derived.Lib.UnsafeStr
import Derived.Laws.Externs
import Derived.Laws.Slices
import Derived.Laws.BytesArg
namespace Go.Sb
open Go Go.RowKit
set_option linter.unusedSimpArgs false
set_option linter.unusedVariables false

variable {P : Program} {N : Nat} {E : En} {Z : World} {L : List HP} {F : HP → List HP} {C D : World → Prop} {Q : Exit → Act → World → Prop} {ops : Array Oper} {rest : List Oper}
section
variable {d : Option Tmp} {x y z : Operand} {t ty u : TypeId} {pos : String} {aft : Array Edge} {g : Option (Nat × Bool)} {v vx vy : Value}
/-! ### Pieces of a string -/
theorem Rd.sliceStr {s : ByteArray} {lo hi : Option Operand} {l h : Nat} {vl vh : Option Value} (ht : P.underlying ty = some .string) (hx : evE E x = some (.string s)) (hl : (match lo with | none => vl = none ∧ l = 0 | some o => ∃ k, evE E o = some (.int k (l : Int)) ∧ vl = some (.int k (l : Int))))
    (hh : (match hi with | none => vh = none ∧ h = s.size | some o => ∃ k, evE E o = some (.int k (h : Int)) ∧ vh = some (.int k (h : Int)))) (h1 : l ≤ h) (h2 : h ≤ s.size) :
    Rd P N E C ⟨d, .slice ty x lo hi none, t, pos, aft, g⟩ (.string (s.extract l h)) := fun a w he _ => by
  have e1 : lo.map a.eval = vl := by
    cases lo with
    | none => simp only at hl; rw [hl.1]; rfl
    | some o => obtain ⟨k, h3, h4⟩ := hl; rw [h4]; simp [he.eval h3]
  have e2 : hi.map a.eval = vh := by
    cases hi with
    | none => simp only at hh; rw [hh.1]; rfl
    | some o => obtain ⟨k, h3, h4⟩ := hh; rw [h4]; simp [he.eval h3]
  simp only [execOp, he.eval hx, e1, e2]
  have h3 : (Instr.sliceBounds false s.size s.size vl vh none).run P w = .ok (l, h, s.size) w := by
    cases lo <;> cases hi <;> simp only at hl hh
    · obtain ⟨rfl, rfl⟩ := hl; obtain ⟨rfl, rfl⟩ := hh
      simp [Instr.sliceBounds]
    · obtain ⟨rfl, rfl⟩ := hl; obtain ⟨k, _, rfl⟩ := hh
      simp [Instr.sliceBounds, Instr.sliceBound, asIntOf, h2]
    · obtain ⟨k, _, rfl⟩ := hl; obtain ⟨rfl, rfl⟩ := hh
      simp [Instr.sliceBounds, Instr.sliceBound, asIntOf, h1]
    · obtain ⟨k, _, rfl⟩ := hl; obtain ⟨k', _, rfl⟩ := hh
      simp [Instr.sliceBounds, Instr.sliceBound, asIntOf, h1, h2]
  simp [Instr.sliceAt, Instr.slice, run_underlying ht, h3]
/-! ### A range over a string -/
theorem J.rangeStr {s : Nat} {bs : ByteArray} (ht : P.underlying ty = some .string) (hx : evE E x = some (.string bs)) (hw : want ops E ⟨some s, .range ty x, t, pos, aft, g⟩ = some true) (hd : dstOk N (some s) = true)
    (k : ∀ b, J N ((s, .pointer (some ⟨b, 0, none⟩)) :: E) (Sto Z (pts b (.stringIter bs 0) :: L)) (wpList P ops Q rest)) : J N E (Sto Z L) (wpList P ops Q (⟨some s, .range ty x, t, pos, aft, g⟩ :: rest)) :=
  J.new (f := fun b => .pointer (some ⟨b, 0, none⟩)) hw hd (fun a w he => by
    simp only [execOp, he.eval hx, Instr.range]
    simp [run_underlying ht]) k
theorem J.nextT {s b pos' : Nat} {bs : ByteArray} (hx : evE E x = some (.pointer (some ⟨b, 0, none⟩))) [HasP b L (.stringIter bs pos') F] (hlt : pos' < bs.size) (hw : want ops E ⟨some s, .next x true, t, pos, aft, g⟩ = some true) (hd : dstOk N (some s) = true)
    (k : J N ((s, .tuple #[.bool true, .int .i64 pos', .int .i32 (Utf8.decode bs pos').1]) :: E) (Sto Z (F (pts b (.stringIter bs (pos' + (Utf8.decode bs pos').2))))) (wpList P ops Q rest)) :
    J N E (Sto Z L) (wpList P ops Q (⟨some s, .next x true, t, pos, aft, g⟩ :: rest)) :=
  J.step (α := Unit) (fun _ => .tuple #[.bool true, .int .i64 pos', .int .i32 (Utf8.decode bs pos').1]) (fun _ => Sto Z (F (pts b (.stringIter bs (pos' + (Utf8.decode bs pos').2))))) hw hd (fun a w he hC => by
    have hb := St.blockP (b := b) hC
    refine ⟨(), { w with heap := w.heap.setIfInBounds b (.stringIter bs (pos' + (Utf8.decode bs pos').2)) }, ?_, ?_⟩
    · simp only [execOp, he.eval hx, Instr.next]
      simp [getObj, setObj, Sem.run, hb, hlt, goInt]
    · refine St.putP (b := b) hC ⟨rfl, rfl, rfl⟩ ?_ (fun k hk => ?_)
      · have := (Array.getElem?_eq_some_iff.1 hb).1
        simp [this]
      · simp only [Array.getElem?_setIfInBounds]; rw [if_neg (by omega)]) (fun _ => k)
theorem J.nextF {s b pos' : Nat} {bs : ByteArray} (hx : evE E x = some (.pointer (some ⟨b, 0, none⟩))) [HasP b L (.stringIter bs pos') F] (hlt : ¬ pos' < bs.size) (hw : want ops E ⟨some s, .next x true, t, pos, aft, g⟩ = some true) (hd : dstOk N (some s) = true)
    (k : J N ((s, .tuple #[.bool false]) :: E) (Sto Z L) (wpList P ops Q rest)) : J N E (Sto Z L) (wpList P ops Q (⟨some s, .next x true, t, pos, aft, g⟩ :: rest)) :=
  J.rd (fun a w he hC => by
    have hb := St.blockP (b := b) hC
    simp only [execOp, he.eval hx, Instr.next]
    simp [getObj, Sem.run, hb, hlt]) hw hd k
/-! ### Conversions -/
theorem SlR.nil {w : World} {c : Nat} {v : Value} (hv : v = .slice none 0 c) : SlR w v [] := ⟨none, c, by simpa using hv, fun j u h => by simp at h⟩
/-- What is owned may be read. -/
theorem SlR.ofOwn {w : World} {v : Value} {e n : Nat} {xs : List Value} {g : Hp} (h : own e 1 v n xs g) (hs : Hp.sub g w) : SlR w v xs := by
  have hl : xs.length = n := by simpa using h.1
  have h' := h
  rcases h.2 with ⟨rfl, rfl, _⟩ | ⟨g', off, cap, cur, rfl, _⟩
  · have : xs = [] := List.eq_nil_of_length_eq_zero (by simpa using hl)
    subst this
    exact SlR.nil rfl
  · subst hl
    exact ⟨_, cap, rfl, fun j u hj => own_cells h' hs j u hj⟩
theorem SlR_own {w : World} {v : Value} {e n : Nat} {xs : List Value} {L : List HP} {Z : World} {F : HP → List HP} [HasO v L e 1 n xs F] (h : St Z w L) : SlR w v xs := by
  obtain ⟨L1, h1, _⟩ := h.hasO (v := v)
  obtain ⟨g, hg, hs⟩ := h1.part0
  exact SlR.ofOwn hg hs
theorem SlR.conv {w : World} {l : List UInt8} {src dst e : TypeId} (h : SlR w v (bytesV l)) (hs : P.underlying src = some (.slice e)) (he : P.underlying e = some (.int .u8)) (hd : P.underlying dst = some .string) :
    (convert src dst v).run P w = .ok (.string ⟨l.toArray⟩) w := by
  obtain ⟨a, c, rfl, hc⟩ := h
  have hl : (bytesV l).length = l.length := by simp [bytesV]
  rw [hl]
  cases a with
  | none =>
    have : l = [] := by
      cases l with
      | nil => rfl
      | cons x l => obtain ⟨b, hb, _⟩ := hc 0 _ rfl; cases hb
    subst this
    rw [run_convert_bytes_string w src dst e none _ c hs he hd]
    simp [Conv.bytesToString]
    rfl
  | some b =>
    refine run_convert_bytes_back w src dst e b c l hs he hd (fun j hj => ?_)
    obtain ⟨b', h1, h2⟩ := hc j (.int .u8 (l[j].toNat : Int)) (by simp [bytesV, hj])
    cases h1
    exact h2
theorem Rd.convBS {l : List UInt8} {src dst e : TypeId} (hs : P.underlying src = some (.slice e)) (hd : P.underlying dst = some .string) (hx : evE E x = some v) (hr : ∀ w, C w → SlR w v (bytesV l)) (he : P.underlying e = some (.int .u8)) : Rd P N E C ⟨d, .convert src dst x, t, pos, aft, g⟩ (.string ⟨l.toArray⟩) := fun a w hE hC => by
  simp only [execOp, hE.eval hx]
  simp [(hr w hC).conv hs he hd]
/-! ### Pointers as unsafe ones, and back -/
theorem Rd.toUnsafe {b bytes sz : Nat} {src dst e T : TypeId} {c : List Value} {fr : Nat × Nat} {zv : Value} (ti : TI P e sz bytes zv) (hs : P.underlying src = some (.pointer e)) (hd : P.underlying dst = some .unsafePointer) (hx : evE E x = some (.pointer (some ⟨b, 0, none⟩)))
    [HasP b L (.cells c.toArray T fr) F] (hsz : sz ≠ 0) (hc : 0 < c.length) : Rd P N E (Sto Z L) ⟨d, .convert src dst x, t, pos, aft, g⟩ (.pointer (some ⟨b, 0, none⟩)) := fun a w hE hC => by
  obtain ⟨j, h1, h2, _, _⟩ := ti
  have hb := St.blockP (b := b) hC
  simp only [execOp, hE.eval hx]
  simp [Lib.run_to_unsafe w ⟨b, 0, none⟩ hs hd h1 (by omega) (show w.shape? b = some (T, c.toArray.size) by simp [World.shape?, hb]) (by simpa using hc)]
theorem Rd.fromUnsafe {b bytes sz : Nat} {src dst e T : TypeId} {c : List Value} {fr : Nat × Nat} {zv : Value} (ti : TI P e sz bytes zv) (hs : P.underlying src = some .unsafePointer) (hd : P.underlying dst = some (.pointer e)) (hx : evE E x = some (.pointer (some ⟨b, 0, none⟩)))
    [HasP b L (.cells c.toArray T fr) F] (hl : liesAt P P.depth T (c.length / P.cellsOf T) 0 e 1 = true) : Rd P N E (Sto Z L) ⟨d, .convert src dst x, t, pos, aft, g⟩ (.pointer (some ⟨b, 0, none⟩)) := fun a w hE hC => by
  obtain ⟨j, h1, h2, _, _⟩ := ti
  have hb := St.blockP (b := b) hC
  simp only [execOp, hE.eval hx]
  simp [Lib.run_from_unsafe w ⟨b, 0, none⟩ hs hd h1 (show w.shape? b = some (T, c.toArray.size) by simp [World.shape?, hb]) (by simpa using hl)]
/-- abi.NoEscape: the pointer as it is. -/
def IsNoEscape (P : Program) (k : Nat) : Prop := ∃ fn, P.funcs[k]? = some fn ∧ (fn.name == "runtime.NumGoroutine") = false ∧ fn.body.isNone = true ∧ Extern.findNext fn = none ∧ Extern.find fn = some Extern.AbiNoEscape.same
theorem Rd.noEscape {k : Nat} {at_ : Array TypeId} (hk : IsNoEscape P k) (hx : evE E x = some v) : Rd P N E C ⟨d, .call ⟨.value (.func k), #[x], at_⟩, t, pos, aft, g⟩ v := fun a w he _ => by
  obtain ⟨fn, h1, h2, h3, h4, h5⟩ := hk
  have hf : a.eval (.func k) = .func (.func k) #[] #[] := rfl
  simp only [execOp, resolve, hf]
  simp [Deferred.ofValue, invoke, he.eval hx, run_callFunc_extern h1 h2 h3 h4 h5, Lib.run_noEscape]
/-- So many bytes lie in a row of bytes, from a place on. -/
theorem lies_at {e : TypeId} (hc : P.cellsOf e = 1) (count off n : Nat) (hn : off + n ≤ count) : liesAt P P.depth e count off e n = true := by
  have hd : P.depth = (2 * (P.types.size + Made.depth) + 1) + 1 := rfl
  rw [hd]
  simp only [liesAt, Bool.or_eq_true]
  left
  rw [hd]
  simp [rowAt, hc, hn, sameLayout, Nat.mod_one]
theorem run_unsafeString_at {w : World} (pt it ty e : TypeId) (hp : P.underlying pt = some (.pointer e)) (hc : P.cellsOf e = 1) (g off cells : Nat) (hsh : w.shape? g = some (e, cells)) (l : List UInt8) (h0 : l ≠ []) (hn : off + l.length ≤ cells) (h63 : l.length ≤ 9223372036854775807)
    (hcell : ∀ j x, l[j]? = some x → w.cell? ((⟨g, off, none⟩ : Addr).add j) = some (.int .u8 x.toNat)) :
    (Builtin.unsafeString_ #[pt, it] ty #[.pointer (some ⟨g, off, none⟩), .int .i64 l.length]).run P w = .ok (.string ⟨l.toArray⟩) (w.freeze ⟨g, off, none⟩ l.length) := by
  have hl : l.length ≠ 0 := by simpa using h0
  have hlb := Lib.run_loadBytes (P := P) w l ⟨g, off, none⟩ .empty hcell
  have hlies := lies_at (P := P) hc (cells / P.cellsOf e) off l.length (by rw [hc]; simpa using hn)
  have h63' : ¬ (9223372036854775807 : Int) < (l.length : Int) := by omega
  have hmax : IntKind.i64.max = 9223372036854775807 := rfl
  have hneg : ¬ (l.length : Int) < 0 := by omega
  show (asInt (.int .i64 (l.length : Int)) >>= _).run P w = _
  simp [asInt, asIntOf, hmax, h63', hneg, hl, variablesAt, hsh, elemOf, run_underlying hp, hlies, hlb]
/-- 'unsafe.SliceData' of an owned slice; which address it is is told by what 'unsafe.String' then reads there. -/
def DataOf (_ : World) (v p : Value) : Prop := match v with
  | .slice (some a) _ c => c ≠ 0 ∧ p = .pointer (some a)
  | _ => p = .pointer none
def dataPtr : Value → Value
  | .slice (some a) _ _ => .pointer (some a)
  | _ => .pointer none
def DataOk (v : Value) : Prop := ∃ b n c, v = .slice b n c ∧ (b = none ∨ c ≠ 0)
theorem DataOk.of {w : World} (h : DataOk v) : DataOf w v (dataPtr v) := by
  obtain ⟨b, n, c, rfl, h⟩ := h
  cases b with
  | none => rfl
  | some a => exact ⟨by simpa using h, rfl⟩
theorem Rd.sliceData {at_ : Array TypeId} (hx : evE E x = some v) (h : DataOk v) : Rd P N E C ⟨d, .call ⟨.builtin .unsafeSliceData, #[x], at_⟩, t, pos, aft, g⟩ (dataPtr v) := fun a w he _ => by
  obtain ⟨b, n, c, rfl, h⟩ := h
  have hr : (Builtin.unsafeSliceData_ at_ t #[.slice b n c]).run P w = .ok (dataPtr (.slice b n c)) w := by
    cases b with
    | none => exact Lib.run_unsafeSliceData_nil ..
    | some a => exact Lib.run_unsafeSliceData_row _ _ _ _ _ _ (by simpa using h)
  simp [execOp, resolve, invoke, builtin, he.eval hx, hr]
theorem J.unsafeString {s pt it : Nat} {e : TypeId} {l : List UInt8} {L' : List HP} (hp : P.underlying pt = some (.pointer e)) (hc : P.cellsOf e = 1) (hv : ∀ w, St Z w L → ∃ b c, v = .slice b l.length c)
    (hx : evE E x = some vx) (hd' : ∀ w, St Z w L → DataOf w v vx) (hy : evE E y = some (.int .i64 l.length)) [hr : RemO v L e 1 l.length (bytesV l) L'] (h63 : l.length ≤ 9223372036854775807)
    (hw : want ops E ⟨some s, .call ⟨.builtin .unsafeString, #[x, y], #[pt, it]⟩, t, pos, aft, g⟩ = some true) (hd : dstOk N (some s) = true)
    (k : J N ((s, .string ⟨l.toArray⟩) :: E) (Sto Z L') (wpList P ops Q rest)) : J N E (Sto Z L) (wpList P ops Q (⟨some s, .call ⟨.builtin .unsafeString, #[x, y], #[pt, it]⟩, t, pos, aft, g⟩ :: rest)) := by
  refine J.step (α := Unit) (fun _ => .string ⟨l.toArray⟩) (fun _ => Sto Z L') hw hd (fun a w he hC => ?_) (fun _ => k)
  have h1 := St.pullO v hC
  have hdw := hd' w hC
  have hrun : ∀ w', (Builtin.unsafeString_ #[pt, it] t #[vx, .int .i64 l.length]).run P w = .ok (.string ⟨l.toArray⟩) w' → (execOp a.eval ⟨some s, .call ⟨.builtin .unsafeString, #[x, y], #[pt, it]⟩, t, pos, aft, g⟩).run P w = .ok (.value (.string ⟨l.toArray⟩)) w' := fun w' h => by
    simp [execOp, resolve, invoke, builtin, he.eval hx, he.eval hy, h]
  by_cases h0 : l = []
  · subst h0
    refine ⟨(), w, hrun w ?_, h1.drop0⟩
    obtain ⟨b, c, rfl⟩ := hv w hC
    cases b with
    | none => simp only [DataOf] at hdw; subst hdw; exact Lib.run_unsafeString_none _ _ _ _ _
    | some ad => simp only [DataOf] at hdw; obtain ⟨_, rfl⟩ := hdw; exact Lib.run_unsafeString_none _ _ _ _ _
  · obtain ⟨gh, hown, hst⟩ := h1.open0
    have hsub : Hp.sub gh w := by obtain ⟨q, hq, hs⟩ := hst.part0; cases hq; exact hs
    have hpos : 0 < l.length := List.length_pos_iff.2 h0
    rcases hown.2 with ⟨_, hl0, _⟩ | ⟨gb, off, cap, cur, rfl, hnc, hcl, htake, hgh⟩
    · omega
    · simp only [DataOf] at hdw
      obtain ⟨_, rfl⟩ := hdw
      subst hgh
      have hb : w.heap[gb]? = some (.cells (List.toArray cur) e (0, 0)) := hsub gb _ (by simp [Hp.one])
      have hsh : w.shape? gb = some (e, cur.length) := by simp [World.shape?, hb]
      refine ⟨(), w.freeze ⟨gb, off, none⟩ l.length, hrun _ (run_unsafeString_at pt it t e hp hc gb off cur.length hsh l h0 (by omega) h63 (fun j u hj => ?_)), ?_⟩
      · obtain ⟨a', h2, h3⟩ := own_cells (c := cap) hown hsub j (.int .u8 u.toNat) (by simp [bytesV, hj])
        cases h2
        exact h3
      · have h4 : St Z w (pts gb (.cells (List.toArray cur) e (0, 0)) :: L') := hst
        have h5 : (w.freeze ⟨gb, off, none⟩ l.length).heap[gb]? = some (.cells (List.toArray cur) e (off, off + l.length)) := by
          unfold World.freeze
          rw [if_neg (by omega)]
          simp [Array.getElem?_modify, hb]
        refine (h4.set0 (w' := w.freeze ⟨gb, off, none⟩ l.length) ?_ h5 (fun q hq => ?_)).drop0
        · unfold World.freeze; split <;> exact ⟨rfl, rfl, rfl⟩
        · unfold World.freeze
          split
          · rfl
          · simp only [Array.getElem?_modify]; rw [if_neg (by omega)]
theorem Rd.neqSame {a' : Addr} {e sz bytes : Nat} {zv : Value} {ty' : TypeId} (ti : TI P e sz bytes zv) (ht : P.underlying ty = some (.pointer e)) (hx : evE E x = some (.pointer (some a'))) (hy : evE E y = some (.pointer (some a'))) : Rd P N E C ⟨d, .binOp .neq ty x y ty', t, pos, aft, g⟩ (.bool false) := by
  obtain ⟨j, h1, _⟩ := ti
  exact Rd.bin' hx hy (eqGuard_at_pointer ..) (fun w => Lib.run_neq_ptr_same w a' ht h1)
end
end Go.Sb
