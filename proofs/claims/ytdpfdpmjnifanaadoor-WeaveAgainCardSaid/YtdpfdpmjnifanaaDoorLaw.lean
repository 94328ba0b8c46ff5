/- From a walk's contract to what a law's row asks: the arguments that came in, the way back out. Over any program. -/
import Derived.Test.YtdpfdpmjnifanaaDoorStr
import Derived.Below
import Derived.ChangeSame
import Derived.WideKeyArgs
import Derived.OpenShut
import Derived.Deep.DeepHandedRow
import Derived.Lib.LaidU8
namespace Go.Sb
open Go Go.RowKit Go.WideShapes Go.ChangeShapes Go.ChangeAt
set_option linter.unusedSimpArgs false
set_option linter.unusedVariables false
section
variable {H : Type} {enc : TypeId × Value → H} {P : Program}
/-- The world that was there at the call. -/
def was (W : World) : HP := is (fun b => W.heap[b]?)
theorem trodAll_stays (hl : laidOutB P = true) {W W' : World} {sp' : Nat → Bool} : ∀ {ts : List TypeId} {vs : List Value} {ds : List (DataW H)} {ps : List MemPlace},
    (∀ t ∈ ts, P.readableRec t = true ∧ t < P.types.size) → DataW.TrodAll enc P W 0 (fun _ => true) true ts vs ds ps → (∀ p ∈ ps, W.sameAt W' p) → (∀ p ∈ ps, sp' p.block = true) → DataW.TrodAll enc P W' 0 sp' true ts vs ds ps
  | [], [], [], ps, _, h, _, _ => h
  | t :: ts, v :: vs, d :: ds, ps, hr, ⟨p, q, h, hs, e⟩, hsame, hsp => by
    subst e
    refine ⟨p, q, WideElems.Trod_stays hl (hr t (by simp)).1 (hr t (by simp)).2 h (fun x hx => hsame x (by simp [hx])) (fun x hx => hsp x (by simp [hx])), trodAll_stays hl (fun u hu => hr u (by simp [hu])) hs (fun x hx => hsame x (by simp [hx])) (fun x hx => hsp x (by simp [hx])), rfl⟩
  | [], _ :: _, _, _, _, h, _, _ => h.elim
  | [], [], _ :: _, _, _, h, _, _ => h.elim
  | _ :: _, [], _, _, _, h, _, _ => h.elim
  | _ :: _, _ :: _, [], _, _, h, _, _ => h.elim
theorem law_post {f : Func} {s : ChangeSpec} {fresh handsOn again : Bool} {W W' : World} {args : Array Value} {ds gs : List (DataW H)} {before : List MemPlace} {tb : TypeId}
    (hW : DataW.Whole enc P f.params.toList s.vars false W args.toList ds gs before) (hvars : s.vars = []) (hfn : ∀ ds : List (DataW H), ds.length = f.params.size → s.fn H ds = { results := [.lit (.bool true)], args := ds })
    (hrt : f.resultTypes = #[tb]) (htb : P.underlying tb = some .bool) (hl : laidOutB P = true) (hr : ∀ t ∈ f.params.toList, P.readableRec t = true ∧ t < P.types.size)
    (hb : Below W.heap.size W W') : s.post enc P f false fresh handsOn again W args (.bool true) W' := by
  have hlt : ∀ p ∈ before, p.block < W.heap.size := fun p hp => hW.lt p hp
  have hW' := hW
  obtain ⟨p, q, hA, hV, he, hz, hn⟩ := hW
  rw [hvars] at hV
  obtain ⟨rfl, rfl⟩ := trodVars_none hV
  have hlen : ∀ {ts : List TypeId} {vs : List Value} {ds : List (DataW H)} {ps : List MemPlace}, DataW.TrodAll enc P W 0 (fun _ => true) true ts vs ds ps → ds.length = ts.length := by
    intro ts
    induction ts with
    | nil => intro vs ds ps h; cases vs <;> cases ds <;> first | rfl | exact h.elim
    | cons t ts ih =>
      intro vs ds ps h
      cases vs with
      | nil => exact h.elim
      | cons v vs => cases ds with
        | nil => exact h.elim
        | cons d ds => obtain ⟨_, _, _, hs, _⟩ := h; simp [ih hs]
  have hd : s.fn H (ds ++ []) = { results := [.lit (.bool true)], args := ds } := by rw [List.append_nil]; exact hfn ds (by simpa using hlen hA)
  subst he
  simp only [List.append_nil] at *
  have hold : ∀ x ∈ p, (fun b => decide (b < W.heap.size)) x.block = true := fun x hx => by simpa using hlt x hx
  have hst : ∀ sp : Nat → Bool, (∀ x ∈ p, sp x.block = true) → DataW.TrodAll enc P W' 0 sp true f.params.toList args.toList ds p := fun sp hsp => trodAll_stays hl hr hA (fun x hx => hb.same (hlt x hx)) hsp
  have hres : ∀ (b : Nat) (sp : Nat → Bool) (hd : Bool), DataW.TrodAll enc P W' b sp hd f.resultTypes.toList ((Value.bool true).resultList f.resultTypes.size) [.lit (.bool true)] [] := fun b sp hd => by
    rw [hrt]
    exact trodAll_cons_mk (shut_bool htb _) trodAll_mk0
  refine ⟨ds, [], p, [], p, [], by simpa using hW', ?_, ?_, ?_, World.keptBut_mono (fun x hx => ⟨hx, ?_⟩) (hb.frame (· ∈ p)), fun _ => ?_⟩
  · simpa [hd] using hres _ _ _
  · simpa [hd] using hst _ hold
  · rw [hvars, show s.fn H (ds ++ []) = _ from by simpa using hd]; exact (rfl : DataW.TrodVars enc P W' _ [] [] [])
  · simpa using hx
  · refine ⟨?_, _, [], ([] ++ p) ++ [], ⟨[] ++ p, [], trodAll_append (hst _ (fun _ _ => rfl)) (hres _ _ _), by rw [hvars]; exact (rfl : DataW.TrodVars enc P W' _ [] [] []), rfl, ?_, ?_⟩, ?_⟩
    · exact ok_one hrt rfl (okWide_bool_mk htb _)
    · intro b off hx
      have hin : MemPlace.cell b off ∈ p := by simpa using hx
      rw [hb.frozen (hlt _ hin)]
      exact hz b off (by simpa using hin)
    · intro ha; cases ha
    · intro x hx _
      simpa using hx
theorem was_cell {W w : World} {L : List HP} (h : St W w (was W :: L)) {a : Addr} {v : Value} (hc : W.cell? a = some v) : w.cell? a = some v := by
  have hb : Below W.heap.size W w := St.toBelow (i := 0) h rfl
  have : a.block < W.heap.size := by
    by_cases h' : a.block < W.heap.size
    · exact h'
    · exfalso
      have : W.heap[a.block]? = none := by simp; omega
      simp [World.cell?, this] at hc
  rw [hb.cell this]; exact hc
/-- BYTES THAT CAME IN may be read in every world that has left what was there. -/
theorem open_bytes {W : World} {base : Nat} {t e : TypeId} {v : Value} {d : DataW H} {ps : List MemPlace} (ht : P.underlying t = some (.slice e)) (he : P.underlying e = some (.int .u8)) (hc : P.cellsOf e = 1)
    (hval : Value.okWide P W .any base t v) (h1 : DataW.Trod enc P W 0 (fun _ => true) true t v d ps) :
    ∃ l : List UInt8, l.length ≤ 9223372036854775807 ∧ SlR W v (bytesV l) := by
  obtain ⟨a1, len, cap, rfl⟩ := okWide_slice ht hval
  obtain ⟨fuel, hf⟩ := h1
  rcases open_ints ht he hc hf with ⟨hcs, hx⟩ | ⟨a, len', cap', zs, hcs, _, hl, hm, hz, hx, hcell, hwz⟩
  · simp [Value.cells] at hcs
    obtain ⟨rfl, rfl, rfl⟩ := hcs
    exact ⟨[], by simp, SlR.nil rfl⟩
  · simp [Value.cells] at hcs
    obtain ⟨rfl, rfl, rfl⟩ := hcs
    simp only [if_true] at hz
    have hlen : ((zs.take len).map fun n => UInt8.ofNat n.toNat).length = len := by simp; omega
    unfold maxLen at hm
    refine ⟨(zs.take len).map fun n => UInt8.ofNat n.toNat, by rw [hlen]; omega, some a, cap, by simp only [bytesV, List.length_map] at *; rw [hlen], fun j u hj => ⟨a, rfl, ?_⟩⟩
    have hj' : j < len := by
      have := (List.getElem?_eq_some_iff.1 hj).1
      simp only [bytesV, List.length_map] at this
      simp at this; omega
    have hb := range_u8 hwz j
    rw [hcell j (by omega)]
    have e : zs.getD j 0 = zs[j]'(by omega) := by simp [List.getD, List.getElem?_eq_getElem (show j < zs.length by omega)]
    rw [List.getD_eq_getElem?_getD] at e
    rw [e] at hb
    rw [List.getD_eq_getElem?_getD, e]
    have : (bytesV ((zs.take len).map fun n => UInt8.ofNat n.toNat))[j]? = some (.int .u8 (zs[j]'(by omega))) := by
      simp only [bytesV, List.map_map, List.getElem?_map, List.getElem?_take, hj', if_true, List.getElem?_eq_getElem (show j < zs.length by omega), Option.map_some, Function.comp]
      congr 2
      simp only [UInt8.toNat_ofNat']
      omega
    rw [this] at hj
    exact hj
theorem SlR.was {W w : World} {L : List HP} {v : Value} {xs : List Value} (h : SlR W v xs) (hw : St W w (was W :: L)) : SlR w v xs := by
  obtain ⟨a, c, hv, hc⟩ := h
  exact ⟨a, c, hv, fun j u hj => by obtain ⟨b, hb, hcell⟩ := hc j u hj; exact ⟨b, hb, was_cell hw hcell⟩⟩
/-- unicode/utf8's two tables, off a row's list. -/
theorem utf8Tabs_of {P : Program} {w : World} {g3 g4 t3 t4 te t5 : Nat} {f0 f1 : Field} (n3 : P.globalNamed "unicode/utf8.first" = some g3) (n4 : P.globalNamed "unicode/utf8.acceptRanges" = some g4) (y3 : (P.globals[g3]?).map (·.type) = some t3) (y4 : (P.globals[g4]?).map (·.type) = some t4)
    (u5 : P.underlying t5 = some (.int .u8)) (u3 : P.underlying t3 = some (.array 256 t5)) (ue : P.underlying te = some (.struct #[f0, f1])) (u4 : P.underlying t4 = some (.array 16 te)) (c5 : P.cellsOf t5 = 1) (c3 : P.cellsOf t3 = 256) (ce : P.cellsOf te = 2)
    (hf0 : f0.type = t5 ∧ f0.offset = 0) (hf1 : f1.type = t5 ∧ f1.offset = 1)
    (h3 : Lib.VarReads P w "unicode/utf8.first" Lib.firstData) (h4 : Lib.VarReads P w "unicode/utf8.acceptRanges" Lib.acceptData) : Lib.Utf8Tabs g3 g4 w := by
  obtain ⟨rfl, o0⟩ := hf0
  obtain ⟨e1, o1⟩ := hf1
  refine ⟨fun c hc => ?_, fun i hi => ?_⟩
  · obtain ⟨g, t, cs, fuel, p, hg, hty, hvar, hd⟩ := h3
    obtain rfl := Option.some.inj (n3.symm.trans hg)
    obtain rfl := Option.some.inj (y3.symm.trans hty)
    have hcs := Lib.cells_of_tab u3 u5 c5 c3 hd
    have := World.var?_cell hg hvar c
    rw [this, ← Array.getElem?_toList, hcs]
    simp [Lib.firstTab, hc]
  · obtain ⟨g, t, cs, fuel, p, hg, hty, hvar, hd⟩ := h4
    obtain rfl := Option.some.inj (n4.symm.trans hg)
    obtain rfl := Option.some.inj (y4.symm.trans hty)
    obtain ⟨fuel', d, q, hdi, he⟩ := Lib.array_elem u4 hd i hi
    simp only [List.getElem?_map, List.getElem?_range hi, Option.map_some, Option.some.injEq] at hdi
    subst hdi
    rw [ce] at he
    have hcs := Lib.ints_of_struct ue (fun j f hj => by
      match j, hj with
      | 0, hj => simp at hj; subst hj; exact ⟨u5, o0, c5⟩
      | 1, hj => simp at hj; subst hj; exact ⟨e1 ▸ u5, o1, e1 ▸ c5⟩
      | j + 2, hj => simp at hj) (by rw [ce]; rfl) he
    have e0 := congrArg (·[0]?) hcs
    have e1 := congrArg (·[1]?) hcs
    simp only [List.getElem?_take, List.getElem?_drop] at e0 e1
    constructor
    · rw [World.var?_cell hg hvar (2 * i), ← Array.getElem?_toList]
      simpa [Nat.mul_comm] using e0
    · rw [World.var?_cell hg hvar (2 * i + 1), ← Array.getElem?_toList]
      simpa [Nat.mul_comm] using e1
/-- A table of integers, off a row's list. -/
theorem tabIs_of {P : Program} {w : World} {n : String} {g t e m : Nat} {k : IntKind} {zs : List Int} (hn : P.globalNamed n = some g) (hy : (P.globals[g]?).map (·.type) = some t) (ut : P.underlying t = some (.array m e)) (ue : P.underlying e = some (.int k))
    (ce : P.cellsOf e = 1) (ct : P.cellsOf t = m) (h : Lib.VarReads P w n (Lib.tabData k zs)) : Lib.TabIs P w n k zs := by
  obtain ⟨g', t', cs, fuel, p, hg, hty, hvar, hd⟩ := h
  obtain rfl := Option.some.inj (hn.symm.trans hg)
  obtain rfl := Option.some.inj (hy.symm.trans hty)
  have hcs := Lib.cells_of_tab ut ue ce ct hd
  unfold Lib.TabIs
  rw [hvar, ← hcs]
theorem tabIs_was {P : Program} {W w : World} {L : List HP} {n : String} {k : IntKind} {zs : List Int} (h : Lib.TabIs P W n k zs) (hw : St W w (was W :: L)) : Lib.TabIs P w n k zs := by
  have hb : Below W.heap.size W w := St.toBelow (i := 0) hw rfl
  unfold Lib.TabIs World.var? at *
  cases hg : P.globalNamed n with
  | none => rw [hg] at h; cases h
  | some g =>
    rw [hg] at h
    simp only [Option.bind_some] at h ⊢
    have hlt : g < W.heap.size := by
      by_cases h' : g < W.heap.size
      · exact h'
      · exfalso
        have : W.heap[g]? = none := by simp; omega
        rw [this] at h; cases h
    rw [hb.block g hlt]; exact h
end
end Go.Sb
