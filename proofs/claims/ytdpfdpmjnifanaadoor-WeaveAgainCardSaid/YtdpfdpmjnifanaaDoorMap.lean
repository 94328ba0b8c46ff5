/- Maps that the call owns: keys that are integers or texts. Over any program. -/
import Derived.Test.YtdpfdpmjnifanaaDoorMix
import Derived.MapKept
namespace Go.Sb
open Go Go.RowKit Go.MapKept
set_option linter.unusedSimpArgs false
set_option linter.unusedVariables false
/-- How keys of one kind stand for values. -/
structure KeyOf {κ : Type} (f : κ → Value) (d : TypeDesc) : Prop where
  inj : ∀ a b, f a = f b → a = b
  key : ∀ a, IsKey d (f a)
  same : ∀ a, Instr.sameBits 10000 (f a) (f a) = true
def keyInt : Int → Value := fun n => .int .i64 n
def keyStr : List UInt8 → Value := fun l => .string ⟨l.toArray⟩
theorem keyInt_of : KeyOf keyInt (.int .i64) := ⟨fun a b h => by simpa [keyInt] using h, fun a => by simp [keyInt, IsKey], fun a => by simp [keyInt, Instr.sameBits]⟩
theorem keyStr_of : KeyOf keyStr .string := ⟨fun a b h => by simpa [keyStr] using h, fun a => by simp [keyStr, IsKey], fun a => by
  simp only [keyStr, Instr.sameBits]; exact (bytes_beq _ _).2 rfl⟩
section
variable {κ : Type} [DecidableEq κ]
def lookK : List (κ × Value) → κ → Option Value
  | [], _ => none
  | (a, v) :: l, k => if a = k then some v else lookK l k
def setK : List (κ × Value) → κ → Value → List (κ × Value)
  | [], k, u => [(k, u)]
  | (a, v) :: l, k, u => if a = k then (a, u) :: l else (a, v) :: setK l k u
theorem lookK_setK (l : List (κ × Value)) (k : κ) (u : Value) (k' : κ) : lookK (setK l k u) k' = if k = k' then some u else lookK l k' := by
  induction l with
  | nil => simp [setK, lookK]
  | cons x l ih =>
    obtain ⟨a, v⟩ := x
    simp only [setK]
    split
    · rename_i h; subst h; simp only [lookK]; split <;> rfl
    · rename_i h
      simp only [lookK, ih]
      by_cases h1 : a = k'
      · subst h1; simp [Ne.symm h]
      · simp [h1]
def entsOf (f : κ → Value) (kvs : List (κ × Value)) (es : List MapEntry) : Prop := es.map (fun e => (e.key, e.val)) = kvs.map (fun p => (f p.1, p.2))
/-- THE MAP v HOLDS kvs, AND NOBODY ELSE HAS IT. -/
def mp (f : κ → Value) (v : Value) (kvs : List (κ × Value)) : HP := fun h => ∃ r es c, v = .map (some r) ∧ entsOf f kvs (Array.toList es) ∧ h = Hp.one r (.map es c)
omit [DecidableEq κ] in
theorem mp_new (f : κ → Value) (r : Nat) : ∀ h, pts r (.map #[] 0) h → mp f (.map (some r)) [] h := fun _ hh => ⟨r, #[], 0, rfl, rfl, hh⟩
theorem findNow_of {f : κ → Value} {d : TypeDesc} (hf : KeyOf f d) (k : κ) : ∀ (kvs : List (κ × Value)) (es : List MapEntry) (i : Nat), entsOf f kvs es →
    (lookK kvs k = none ∧ Instr.findNow d (f k) es i = some none) ∨ ∃ v j e, lookK kvs k = some v ∧ Instr.findNow d (f k) es i = some (some (i + j, v)) ∧ es[j]? = some e ∧ e.key = f k ∧ ∀ u es', (es' = es.set j { e with key := f k, val := u }) → entsOf f (setK kvs k u) es'
  | [], [], i, _ => .inl ⟨rfl, rfl⟩
  | [], _ :: _, _, h => by simp [entsOf] at h
  | _ :: _, [], _, h => by simp [entsOf] at h
  | (a, v) :: kvs, e :: es, i, h => by
    simp only [entsOf, List.map_cons, List.cons.injEq, Prod.mk.injEq] at h
    obtain ⟨⟨h1, h2⟩, h3⟩ := h
    obtain ⟨r, hr, hiff⟩ := sameNow_of_keys (hf.key k) (b := e.key) (by rw [h1]; exact hf.key a)
    by_cases hak : a = k
    · subst hak
      have : r = true := hiff.2 h1.symm
      subst this
      refine .inr ⟨v, 0, e, by simp [lookK], by simp [Instr.findNow, hr, h2], rfl, h1, fun u es' he => ?_⟩
      subst he
      simp only [setK, if_true, List.set_cons_zero, entsOf, List.map_cons]
      rw [h3]
    · have : r = false := by
        cases r with
        | false => rfl
        | true => exact absurd (hf.inj _ _ ((hiff.1 rfl).trans h1)).symm hak
      subst this
      rcases findNow_of hf k kvs es (i + 1) h3 with ⟨g1, g2⟩ | ⟨v', j, e', g1, g2, g3, g4, g5⟩
      · exact .inl ⟨by simp [lookK, hak, g1], by simp [Instr.findNow, hr, g2]⟩
      · refine .inr ⟨v', j + 1, e', by simp [lookK, hak, g1], by simp [Instr.findNow, hr, g2]; omega, by simpa using g3, g4, fun u es' he => ?_⟩
        subst he
        have := g5 u _ rfl
        simp only [entsOf] at this
        simp only [setK, if_neg hak, List.set_cons_succ, entsOf, List.map_cons]
        rw [this, h1, h2]
theorem setK_none {l : List (κ × Value)} {k : κ} {u : Value} (h : lookK l k = none) : setK l k u = l ++ [(k, u)] := by
  induction l with
  | nil => rfl
  | cons x l ih =>
    obtain ⟨a, v⟩ := x
    simp only [lookK] at h
    split at h
    · cases h
    · rename_i hn; simp [setK, hn, ih h]
class HasM (v : Value) (L : List HP) (f : outParam (κ → Value)) (kvs : outParam (List (κ × Value))) (F : outParam (HP → List HP)) : Prop where
  eq : ∃ i, L[i]? = some (mp f v kvs) ∧ ∀ Y, F Y = L.set i Y
instance HasM.head {v : Value} {f : κ → Value} {kvs : List (κ × Value)} {L : List HP} : HasM v (mp f v kvs :: L) f kvs (fun Y => Y :: L) := ⟨0, rfl, fun _ => rfl⟩
instance (priority := low) HasM.tail {v : Value} {f : κ → Value} {kvs : List (κ × Value)} {A : HP} {L : List HP} {F : HP → List HP} [h : HasM v L f kvs F] : HasM v (A :: L) f kvs (fun Y => A :: F Y) :=
  let ⟨i, h1, h2⟩ := h.eq; ⟨i + 1, by simpa using h1, fun Y => by simp [h2 Y]⟩
omit [DecidableEq κ] in
theorem St.hasM {Z w : World} {v : Value} {f : κ → Value} {kvs : List (κ × Value)} {L : List HP} {F : HP → List HP} [k : HasM v L f kvs F] (h : St Z w L) : ∃ L1, St Z w (mp f v kvs :: L1) ∧ ∀ Y, (Y :: L1).Perm (F Y) := by
  obtain ⟨i, h1, h2⟩ := k.eq
  exact ⟨L.eraseIdx i, h.front h1, fun Y => by rw [h2]; exact set_erase _ Y h1⟩
omit [DecidableEq κ] in
theorem St.openM {Z w : World} {v : Value} {f : κ → Value} {kvs : List (κ × Value)} {L : List HP} (h : St Z w (mp f v kvs :: L)) : ∃ r es c, v = .map (some r) ∧ entsOf f kvs (Array.toList es) ∧ St Z w (pts r (.map es c) :: L) := by
  obtain ⟨g, ⟨r, es, c, hv, he, rfl⟩, hs⟩ := h.open0
  exact ⟨r, es, c, hv, he, hs⟩
variable {P : Program} {N : Nat} {E : En} {Z : World} {L : List HP} {F : HP → List HP} {C D : World → Prop} {Q : Exit → Act → World → Prop} {ops : Array Oper} {rest : List Oper}
variable {d : Option Tmp} {x y z : Operand} {t ty : TypeId} {pos : String} {aft : Array Edge} {g : Option (Nat × Bool)} {v vx vy : Value}
theorem J.makeMap {κ : Type} [DecidableEq κ] (f : κ → Value) {s : Nat} (hw : want ops E ⟨some s, .makeMap ty none, t, pos, aft, g⟩ = some true) (hd : dstOk N (some s) = true)
    (k : ∀ b, J N ((s, .map (some b)) :: E) (Sto Z (mp f (.map (some b)) [] :: L)) (wpList P ops Q rest)) : J N E (Sto Z L) (wpList P ops Q (⟨some s, .makeMap ty none, t, pos, aft, g⟩ :: rest)) :=
  J.new (f := fun b => .map (some b)) (o := .map #[] 0) hw hd (fun a w he => by
    simp only [execOp]
    simp [Instr.makeMap, newObj, Sem.run]) (fun b => J.conv (fun w hw => St.conv0 (mp_new f b) hw) (k b))
theorem Rd.lookup {κ : Type} [DecidableEq κ] {f : κ → Value} {kvs : List (κ × Value)} {kt et : TypeId} {kd : TypeDesc} {k : κ} {sz bytes : Nat} {zv : Value} (hf : KeyOf f kd) (ht : P.underlying ty = some (.map kt et)) (hk : P.underlying kt = some kd) (ti : TI P et sz bytes zv)
    (hx : evE E x = some v) (hy : evE E y = some (f k)) [HasM v L f kvs F] : Rd P N E (Sto Z L) ⟨d, .lookup ty x y false, t, pos, aft, g⟩ ((lookK kvs k).getD zv) := fun a w he hC => by
  obtain ⟨j, h2, h3, h4, h5⟩ := ti
  obtain ⟨L1, h1, _⟩ := St.hasM (f := f) (kvs := kvs) (v := v) hC
  obtain ⟨r, es, c, rfl, hes, hst⟩ := St.openM h1
  have hb := hst.block0
  simp only [execOp, he.eval hx, he.eval hy]
  rcases findNow_of hf k kvs es.toList 0 hes with ⟨g1, g2⟩ | ⟨v', j', e', g1, g2, _⟩
  · simp [Instr.lookup, run_underlying ht, MapKept.run_getObj_map hb, MapKept.run_checkKey hk (hf.key k), MapKept.run_findKey hk g2, g1, zeroValue, typeInfo, h2, h5]
  · simp [Instr.lookup, run_underlying ht, MapKept.run_getObj_map hb, MapKept.run_checkKey hk (hf.key k), MapKept.run_findKey hk g2, g1]
theorem Rd.lookupOk {κ : Type} [DecidableEq κ] {f : κ → Value} {kvs : List (κ × Value)} {kt et : TypeId} {kd : TypeDesc} {k : κ} {sz bytes : Nat} {zv : Value} (hf : KeyOf f kd) (ht : P.underlying ty = some (.map kt et)) (hk : P.underlying kt = some kd) (ti : TI P et sz bytes zv)
    (hx : evE E x = some v) (hy : evE E y = some (f k)) [HasM v L f kvs F] : Rd P N E (Sto Z L) ⟨d, .lookup ty x y true, t, pos, aft, g⟩ (.tuple #[(lookK kvs k).getD zv, .bool (lookK kvs k).isSome]) := fun a w he hC => by
  obtain ⟨j, h2, h3, h4, h5⟩ := ti
  obtain ⟨L1, h1, _⟩ := St.hasM (f := f) (kvs := kvs) (v := v) hC
  obtain ⟨r, es, c, rfl, hes, hst⟩ := St.openM h1
  have hb := hst.block0
  simp only [execOp, he.eval hx, he.eval hy]
  rcases findNow_of hf k kvs es.toList 0 hes with ⟨g1, g2⟩ | ⟨v', j', e', g1, g2, _⟩
  · simp [Instr.lookup, run_underlying ht, MapKept.run_getObj_map hb, MapKept.run_checkKey hk (hf.key k), MapKept.run_findKey hk g2, g1, zeroValue, typeInfo, h2, h5]
  · simp [Instr.lookup, run_underlying ht, MapKept.run_getObj_map hb, MapKept.run_checkKey hk (hf.key k), MapKept.run_findKey hk g2, g1]
/-- An entry is laid, or turned. -/
theorem run_mapUpdate {κ : Type} [DecidableEq κ] {f : κ → Value} {kvs : List (κ × Value)} {kt et : TypeId} {kd : TypeDesc} {k : κ} {u : Value} {w : World} {L1 : List HP} (hf : KeyOf f kd) (ht : P.underlying ty = some (.map kt et)) (hk : P.underlying kt = some kd) (h1 : St Z w (mp f v kvs :: L1)) :
    ∃ w', (Instr.mapUpdate ty v (f k) u).run P w = .ok () w' ∧ St Z w' (mp f v (setK kvs k u) :: L1) := by
  obtain ⟨r, es, c, rfl, hes, hst⟩ := St.openM h1
  have hb := hst.block0
  have hset := fun o' : Obj => heap_set (o' := o') hb
  rcases findNow_of hf k kvs es.toList 0 hes with ⟨g1, g2⟩ | ⟨v', j', e', g1, g2, g3, g4, g5⟩
  · refine ⟨_, by simp [Instr.mapUpdate, run_underlying ht, MapKept.run_getObj_map hb, MapKept.run_checkKey hk (hf.key k), MapKept.run_findKey hk g2, MapKept.run_setObj_map _ hb]; rfl, ?_⟩
    refine St.conv0 (X := pts r (.map (es.push { key := f k, val := u, born := c }) (c + 1))) (fun h hh => ⟨r, _, _, rfl, ?_, hh⟩) (hst.set0 ⟨rfl, rfl, rfl⟩ (hset _).1 (hset _).2)
    rw [setK_none g1]
    simp only [entsOf] at hes ⊢
    simp [hes]
  · have hj : es[j']? = some e' := by rw [← Array.getElem?_toList]; exact g3
    refine ⟨_, by simp [Instr.mapUpdate, run_underlying ht, MapKept.run_getObj_map hb, MapKept.run_checkKey hk (hf.key k), MapKept.run_findKey hk g2, MapKept.run_setObj_map _ hb, Instr.keyThatStays, hj, g4, hf.same]; rfl, ?_⟩
    refine St.conv0 (X := pts r _) (fun h hh => ⟨r, _, _, rfl, g5 u _ ?_, hh⟩) (hst.set0 ⟨rfl, rfl, rfl⟩ (hset _).1 (hset _).2)
    rw [Array.toList_modify]
    apply List.ext_getElem?
    intro i
    rw [List.getElem?_modify, List.getElem?_set]
    by_cases hi : j' = i
    · subst hi
      have hlt : j' < es.toList.length := (List.getElem?_eq_some_iff.1 g3).1
      simpa [g3] using hlt
    · simp [hi]
theorem J.insert {κ : Type} [DecidableEq κ] {f : κ → Value} {kvs : List (κ × Value)} {kt et : TypeId} {kd : TypeDesc} (k : κ) {u : Value} (hf : KeyOf f kd) (ht : P.underlying ty = some (.map kt et)) (hk : P.underlying kt = some kd)
    (hx : evE E x = some v) (hy : evE E y = some (f k)) (hz : evE E z = some u) [HasM v L f kvs F] (hw : want ops E ⟨none, .insert ty x y z, t, pos, aft, g⟩ = some true)
    (kk : J N E (Sto Z (F (mp f v (setK kvs k u)))) (wpList P ops Q rest)) : J N E (Sto Z L) (wpList P ops Q (⟨none, .insert ty x y z, t, pos, aft, g⟩ :: rest)) :=
  J.stepU hw rfl (fun a w he hC => by
    obtain ⟨L1, h1, h2⟩ := St.hasM (f := f) (kvs := kvs) (v := v) hC
    obtain ⟨w', hr, hs⟩ := run_mapUpdate (P := P) (k := k) (u := u) hf ht hk h1
    refine ⟨w', ?_, hs.perm (h2 _)⟩
    simp only [execOp, he.eval hx, he.eval hy, he.eval hz]
    simp [hr]) kk
theorem J.mapUpdate {κ : Type} [DecidableEq κ] {f : κ → Value} {kvs : List (κ × Value)} {kt et : TypeId} {kd : TypeDesc} (k : κ) {u : Value} (hf : KeyOf f kd) (ht : P.underlying ty = some (.map kt et)) (hk : P.underlying kt = some kd)
    (hx : evE E x = some v) (hy : evE E y = some (f k)) (hz : evE E z = some u) [HasM v L f kvs F] (hw : want ops E ⟨none, .mapUpdate ty x y z, t, pos, aft, g⟩ = some true)
    (kk : J N E (Sto Z (F (mp f v (setK kvs k u)))) (wpList P ops Q rest)) : J N E (Sto Z L) (wpList P ops Q (⟨none, .mapUpdate ty x y z, t, pos, aft, g⟩ :: rest)) :=
  J.stepU hw rfl (fun a w he hC => by
    obtain ⟨L1, h1, h2⟩ := St.hasM (f := f) (kvs := kvs) (v := v) hC
    obtain ⟨w', hr, hs⟩ := run_mapUpdate (P := P) (k := k) (u := u) hf ht hk h1
    refine ⟨w', ?_, hs.perm (h2 _)⟩
    simp only [execOp, he.eval hx, he.eval hy, he.eval hz]
    simp [hr]) kk
end
end Go.Sb
