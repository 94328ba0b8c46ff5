/- Elements of slices that the call owns: read and written at their own addresses; elements of several cells. Over any program. -/
import Derived.Test.YtdpfdpmjnifanaaDoorCut
import Derived.Test.YtdpfdpmjnifanaaDoorAgg
import Derived.Test.YtdpfdpmjnifanaaDoorMix
namespace Go.Sb
open Go Go.RowKit
set_option linter.unusedSimpArgs false
set_option linter.unusedVariables false
/-- The address of the cell k of a slice's row. -/
def elemAd (v : Value) (k : Nat) : Option Addr := match v with
  | .slice (some b) _ _ => some (b.add k)
  | _ => none
theorem own_at {Z w : World} {e sz n k : Nat} {v : Value} {xs : List Value} {L : List HP} {g o : Nat} (h : St Z w (own e sz v n xs :: L)) (had : elemAd v k = some ⟨g, o, none⟩) :
    ∃ off cap cur, v = .slice (some ⟨g, off, none⟩) n cap ∧ o = off + k ∧ n ≤ cap ∧ off + cap * sz ≤ cur.length ∧ (cur.drop off).take (n * sz) = xs ∧ xs.length = n * sz ∧ St Z w (pts g (.cells (List.toArray cur) e (0, 0)) :: L) := by
  obtain ⟨gh, ⟨hl, hg⟩, hs⟩ := h.open0
  rcases hg with ⟨rfl, _, _⟩ | ⟨g', off, cap, cur, rfl, h1, h2, h3, rfl⟩
  · simp [elemAd] at had
  · simp only [elemAd, Addr.add_lit, Option.some.injEq, Addr.mk.injEq] at had
    obtain ⟨rfl, rfl, _⟩ := had
    exact ⟨off, cap, cur, rfl, rfl, h1, h2, h3, hl, hs⟩
section
variable {P : Program} {N : Nat} {E : En} {Z : World} {L : List HP} {F : HP → List HP} {C : World → Prop} {Q : Exit → Act → World → Prop} {ops : Array Oper} {rest : List Oper}
variable {d : Option Tmp} {x y z : Operand} {t ty u : TypeId} {pos : String} {aft : Array Edge} {g : Option (Nat × Bool)} {v vx vy : Value}
theorem elemAd_own {e sz n i : Nat} {xs : List Value} {w : World} [HasO v L e sz n xs F] (hC : St Z w L) (hi : i < n) : ∃ gb o, elemAd v (i * sz) = some ⟨gb, o, none⟩ := by
  obtain ⟨L1, h1, _⟩ := St.hasO (v := v) hC
  obtain ⟨gh, ⟨_, hg⟩, _⟩ := h1.part0
  rcases hg with ⟨rfl, h2, _⟩ | ⟨g', off, cap, cur, rfl, _⟩
  · omega
  · exact ⟨g', off + i * sz, by simp [elemAd, Addr.add_lit]⟩
theorem Rd.idxA {e sz n i bytes gb o : Nat} {xs : List Value} {k : IntKind} {zv : Value} (ti : TI P e sz bytes zv) (ht : P.underlying ty = some (.slice e)) (hx : evE E x = some v) (hy : evE E y = some (.int k (i : Int))) [HasO v L e sz n xs F] (hi : i < n) (had : elemAd v (i * sz) = some ⟨gb, o, none⟩) :
    Rd P N E (Sto Z L) ⟨d, .indexAddr ty x y, t, pos, aft, g⟩ (.pointer (some ⟨gb, o, none⟩)) := fun a w he hC => by
  obtain ⟨j, h2, h3, _, _⟩ := ti
  obtain ⟨b0, c0, rfl⟩ := St.ownVal (v := v) hC
  cases b0 with
  | none => simp [elemAd] at had
  | some b =>
    simp only [elemAd, Option.some.injEq] at had
    have := Rd.indexSl (C := Sto Z L) (d := d) (t := t) (pos := pos) (aft := aft) (g := g) hx hy ht h2 h3 hi a w he hC
    rwa [had] at this
theorem J.idxA {s e sz n i bytes : Nat} {xs : List Value} {k : IntKind} {zv : Value} (ti : TI P e sz bytes zv) (ht : P.underlying ty = some (.slice e)) (hx : evE E x = some v) (hy : evE E y = some (.int k (i : Int))) [HasO v L e sz n xs F] (hi : i < n)
    (hw : want ops E ⟨some s, .indexAddr ty x y, t, pos, aft, g⟩ = some true) (hd : dstOk N (some s) = true)
    (kk : ∀ gb o : Nat, elemAd v (i * sz) = some ⟨gb, o, none⟩ → J N ((s, .pointer (some ⟨gb, o, none⟩)) :: E) (Sto Z L) (wpList P ops Q rest)) :
    J N E (Sto Z L) (wpList P ops Q (⟨some s, .indexAddr ty x y, t, pos, aft, g⟩ :: rest)) := by
  intro a w he hC
  obtain ⟨gb, o, had⟩ := elemAd_own (v := v) (sz := sz) hC hi
  exact J.rd (Rd.idxA (v := v) ti ht hx hy hi had) hw hd (kk gb o had) a w he hC
/-- The address of an element, of the slice's value alone. -/
theorem Rd.idxP {e sz n i bytes : Nat} {ad : Addr} {k : IntKind} {zv : Value} (ti : TI P e sz bytes zv) (ht : P.underlying ty = some (.slice e)) (hv : ∃ b c, v = .slice b n c) (hx : evE E x = some v) (hy : evE E y = some (.int k (i : Int))) (hi : i < n) (had : elemAd v (i * sz) = some ad) :
    Rd P N E C ⟨d, .indexAddr ty x y, t, pos, aft, g⟩ (.pointer (some ad)) := fun a w he hC => by
  obtain ⟨j, h2, h3, _, _⟩ := ti
  obtain ⟨b0, c0, rfl⟩ := hv
  cases b0 with
  | none => simp [elemAd] at had
  | some b =>
    simp only [elemAd, Option.some.injEq] at had
    have := Rd.indexSl (C := C) (d := d) (t := t) (pos := pos) (aft := aft) (g := g) hx hy ht h2 h3 hi a w he hC
    rwa [had] at this
theorem J.elem {X : Act → World → Prop} {e sz n i : Nat} {xs : List Value} [HasO v L e sz n xs F] (hi : i < n) (k : ∀ gb o, elemAd v (i * sz) = some ⟨gb, o, none⟩ → (∃ b c, v = .slice b n c) → J N E (Sto Z L) X) : J N E (Sto Z L) X := fun a w he hC => by
  obtain ⟨gb, o, had⟩ := elemAd_own (v := v) (sz := sz) hC hi
  exact k gb o had (St.ownVal (v := v) hC) a w he hC
theorem J.elemR {X : Act → World → Prop} {i : Nat} {xs : List Value} {u : Value} (hr : ∀ w, C w → SlR w v xs) (hi : xs[i]? = some u) (k : ∀ ad, elemAd v (i * 1) = some ad → (∃ b c, v = .slice b xs.length c) → (∀ w, C w → w.cell? ad = some u) → J N E C X) : J N E C X := fun a w he hC => by
  obtain ⟨b0, c, rfl, hc⟩ := hr w hC
  obtain ⟨b, rfl, hcell⟩ := hc i u hi
  refine k (b.add i) (by simp [elemAd]) ⟨_, _, rfl⟩ (fun w' hC' => ?_) a w he hC
  obtain ⟨b1, c1, hv, hc1⟩ := hr w' hC'
  injection hv with hv
  obtain ⟨b2, h6, h7⟩ := hc1 i u hi
  rw [← hv] at h6
  cases h6
  exact h7
/-- A cell of an element is loaded. -/
theorem cell_own {e sz n k q gb o o' : Nat} {xs : List Value} {w : World} [HasO v L e sz n xs F] (hC : St Z w L) (had : elemAd v k = some ⟨gb, o, none⟩) (ho : o' = o + q) (hv : xs[k + q]? = some vx) : w.cell? ⟨gb, o', none⟩ = some vx := by
  obtain ⟨L1, h1, _⟩ := St.hasO (v := v) hC
  obtain ⟨off, cap, cur, rfl, rfl, h2, h3, h4, h5, h6⟩ := own_at h1 had
  subst ho
  refine cell_of_block h6.block0 ?_
  have hlt := (List.getElem?_eq_some_iff.1 hv).1
  rw [← h4, List.getElem?_take] at hv
  split at hv
  · rw [List.getElem?_drop] at hv
    rw [List.getElem?_toArray, show off + k + q = off + (k + q) by omega]; exact hv
  · cases hv
theorem Rd.ldO {e sz n k q gb o o' : Nat} {xs : List Value} {ds : TypeDesc} (had : elemAd v k = some ⟨gb, o, none⟩) (q' : o' = o + q) (ht : P.underlying ty = some ds) (hx : evE E x = some (.pointer (some ⟨gb, o', none⟩))) [HasO v L e sz n xs F] (hv : xs[k + q]? = some vx)
    (hi : (match ds with | .struct _ | .array _ _ => false | _ => true) = true) : Rd P N E (Sto Z L) ⟨d, .load ty x, t, pos, aft, g⟩ vx :=
  Rd.load hx ht hi (fun w hC => cell_own (v := v) hC had q' hv)
/-- A cell of an element is written. -/
theorem J.stoO {e sz n k q gb o o' bytes : Nat} {xs : List Value} {zv : Value} (had : elemAd v k = some ⟨gb, o, none⟩) (q' : o' = o + q) (ti : TI P ty 1 bytes zv) (hx : evE E x = some (.pointer (some ⟨gb, o', none⟩))) (hy : evE E y = some vy) [HasO v L e sz n xs F] (hlt : k + q < xs.length) (h1 : vy.oneCell' = true)
    (hw : want ops E ⟨none, .store ty x y, t, pos, aft, g⟩ = some true)
    (kk : J N E (Sto Z (F (own e sz v n (xs.set (k + q) vy)))) (wpList P ops Q rest)) : J N E (Sto Z L) (wpList P ops Q (⟨none, .store ty x y, t, pos, aft, g⟩ :: rest)) := by
  obtain ⟨j, h2, h3, _, _⟩ := ti
  refine J.stepU hw rfl (fun a w he hC => ?_) kk
  obtain ⟨L1, hL, hF⟩ := St.hasO (v := v) hC
  obtain ⟨off, cap, cur, hv, ho, c1, c2, c3, c4, h6⟩ := own_at hL had
  have hb := h6.block0
  have hlen : n * sz ≤ cap * sz := Nat.mul_le_mul_right _ c1
  have hcur : o' < cur.length := by omega
  refine ⟨w.setCell ⟨gb, o', none⟩ vy, ?_, ?_⟩
  · simp only [execOp, he.eval hx, he.eval hy]
    simp [run_store1 h2 h3 h1 hb hcur]
  · have h7 : St Z (w.setCell ⟨gb, o', none⟩ vy) (pts gb (.cells (List.toArray (cur.set o' vy)) e (0, 0)) :: L1) := h6.set0 ⟨rfl, rfl, rfl⟩ (by rw [heap_setCell_at hb]; simp) (fun q hq => Below.heap_setCell _ _ _ _ hq)
    refine (h7.conv0 (fun h hh => ⟨by simpa using c4, .inr ⟨gb, off, cap, cur.set o' vy, hv, c1, by simpa using c2, ?_, hh⟩⟩)).perm (hF _)
    rw [← c3]
    apply List.ext_getElem?
    intro i
    rw [List.getElem?_take, List.getElem?_drop, List.getElem?_set, List.getElem?_set, List.getElem?_take, List.getElem?_drop]
    have hlt' : k + q < ((cur.drop off).take (n * sz)).length := by rw [c3]; exact hlt
    have hlt2 : k + q < n * sz := by rw [← c4]; exact hlt
    by_cases hi : i < n * sz
    · rw [if_pos hi, if_pos hi]
      by_cases e1 : k + q = i
      · rw [if_pos (by omega), if_pos e1, if_pos hcur, if_pos hlt']
      · rw [if_neg (by omega), if_neg e1]
    · rw [if_neg hi, if_neg hi, if_neg (by omega)]
theorem zip_fold : ∀ (l a b : List Value), b.length = l.length → (l.zipIdx a.length).foldl (fun cs p => cs.setIfInBounds p.2 p.1) (a ++ b).toArray = (a ++ l).toArray
  | [], a, b, h => by
    have : b = [] := List.eq_nil_of_length_eq_zero (by simpa using h)
    simp [this]
  | x :: l, a, [], h => by simp at h
  | x :: l, a, y :: b, h => by
    have ih := zip_fold l (a ++ [x]) b (by simpa using h)
    simp only [List.length_append, List.length_cons, List.length_nil, Nat.zero_add, List.append_assoc, List.cons_append, List.nil_append] at ih
    simp only [List.zipIdx_cons, List.foldl_cons]
    rw [← ih]
    congr 1
    simp
/-- A slice of one element of several cells. -/
theorem J.litS {s e sz bytes : Nat} {cs : List Value} {zv : Value} (ti : TI P e sz bytes zv) (ht : P.underlying ty = some (.slice e)) (hx : evE E x = some v) (hv : v.cells = cs.toArray) (hl : cs.length = sz) (hs : 0 < sz ∧ sz ≤ 1000) (hz : zv.cells.size = sz)
    (hw : want ops E ⟨some s, .buildSlice ty 1 #[(0, x)], t, pos, aft, g⟩ = some true) (hd : dstOk N (some s) = true)
    (k : ∀ b, J N ((s, .slice (some ⟨b, 0, none⟩) 1 1) :: E) (Sto Z (pts b (.cells cs.toArray e (0, 0)) :: L)) (wpList P ops Q rest)) : J N E (Sto Z L) (wpList P ops Q (⟨some s, .buildSlice ty 1 #[(0, x)], t, pos, aft, g⟩ :: rest)) := by
  obtain ⟨j, h2, h3, h4, h5⟩ := ti
  refine J.buildSlice (ps := [(0, x)]) (vs := [(0, v)]) (cs := cs) (by simp [evParts, hx]) ht h2 h5 (by simp [h3]; omega) (by simp [h3]; omega) ?_ hw hd k
  have hz2 : ((Array.range (1 * j.size)).map (fun i => zv.cells[i % zv.cells.size]!)).size = sz := by simp [h3]
  generalize (Array.range (1 * j.size)).map (fun i => zv.cells[i % zv.cells.size]!) = z0 at hz2
  simp only [Instr.fill, h3, hv]
  simp [hl, hz2]
  have := zip_fold cs [] z0.toList (by simp; omega)
  simpa using this
/-- One element of several cells, that lies in a new block, is put behind: the block is let go. -/
theorem J.appS {s e sz n bytes b c : Nat} {xs news : List Value} {zv : Value} {L' : List HP} (ti : TI P e sz bytes zv) (ht : P.underlying t = some (.slice e))
    (hx : evE E x = some v) (hy : evE E y = some (.slice (some ⟨b, 0, none⟩) 1 c)) [hb : RemP b L (.cells news.toArray e (0, 0)) L'] [HasO v L' e sz n xs F]
    (hm : news.length = sz) (h1 : ∀ u ∈ news, u.oneCell' = true) (hfit : (n + 1) * bytes ≤ 140737488355328) (h63 : n + 1 ≤ 4611686018427387904) (hzs : zv.cells.size = sz) (hpos : 0 < sz)
    (hw : want ops E ⟨some s, .call ⟨.builtin .append, #[x, y], #[t, t]⟩, ty, pos, aft, g⟩ = some true) (hd : dstOk N (some s) = true)
    (k : ∀ b' c', J N ((s, .slice b' (n + 1) c') :: E) (Sto Z (F (own e sz (.slice b' (n + 1) c') (n + 1) (xs ++ news)))) (wpList P ops Q rest)) :
    J N E (Sto Z L) (wpList P ops Q (⟨some s, .call ⟨.builtin .append, #[x, y], #[t, t]⟩, ty, pos, aft, g⟩ :: rest)) := by
  obtain ⟨j, h2, h3, h4, h5⟩ := ti
  refine J.step (α := Option Addr × Nat) (fun q => .slice q.1 (n + 1) q.2) (fun q => Sto Z (F (own e sz (.slice q.1 (n + 1) q.2) (n + 1) (xs ++ news)))) hw hd (fun a w he hC => ?_) (fun q => k q.1 q.2)
  have h6 : St Z w (pts b (.cells news.toArray e (0, 0)) :: L') := St.perm hC hb.perm
  have h7 : w.heap[b]? = some (.cells news.toArray e (0, 0)) := h6.block0
  obtain ⟨L1, h8, h9⟩ := St.hasO (v := v) h6.drop0
  obtain ⟨v', w', hr, hst⟩ := run_append (P := P) (ty := ty) (u := t) (x := .slice (some ⟨b, 0, none⟩) 1 c) (m := 1) (news := news) ht ht (.inl ⟨_, rfl⟩) h2 h5 h3 hzs h4 hpos h1 hfit h63 h8 (Src.row h7 (by omega))
  obtain ⟨b', c', rfl⟩ := St.ownVal (v := v') hst
  refine ⟨(b', c'), w', ?_, hst.perm (h9 _)⟩
  simp [execOp, resolve, invoke, builtin, he.eval hx, he.eval hy, hr]
/-- Whatever it holds: a type's value is asked for. -/
theorem Rd.assertD {ds : TypeDesc} {T sz bytes : Nat} {zv : Value} {xt : TypeId} (ht : P.underlying ty = some ds) (hi : notIface ds = true) (ti : TI P ty sz bytes zv) (hx : evE E x = some (.iface T vx)) : Rd P N E C ⟨d, .typeAssert x xt ty true, t, pos, aft, g⟩ (.tuple #[if T = ty then vx else zv, .bool (decide (T = ty))]) := by
  by_cases h : T = ty
  · subst h
    rw [if_pos rfl, decide_eq_true rfl]
    exact Rd.assertT ht hi hx
  · rw [if_neg h, decide_eq_false h]
    exact Rd.assertF ht hi ti h hx
end
/-- Parts that stand behind are left. -/
theorem St.offL {Z w : World} : ∀ {L : List HP} {Lf : List HP}, St Z w (L ++ Lf) → St Z w Lf
  | [], _, h => h
  | _ :: L, _, h => St.offL (L := L) h.drop0
theorem perm2 {A X Y : HP} {L Lf : List HP} : (A :: X :: Y :: (L ++ Lf)).Perm (A :: (L ++ (X :: Y :: Lf))) := by
  refine List.Perm.cons A ?_
  have h1 : (X :: Y :: (L ++ Lf)).Perm ((X :: Y :: []) ++ L ++ Lf) := by simp
  have h2 : ((X :: Y :: []) ++ L ++ Lf).Perm (L ++ (X :: Y :: []) ++ Lf) := List.Perm.append_right _ List.perm_append_comm
  exact h1.trans (h2.trans (by simp))
theorem St.swapL {Z w : World} {A X Y : HP} {L Lf : List HP} (h : St Z w (A :: X :: Y :: (L ++ Lf))) : St Z w (A :: (L ++ (X :: Y :: Lf))) := h.perm perm2
theorem St.swapR {Z w : World} {A X Y : HP} {L Lf : List HP} (h : St Z w (A :: (L ++ (X :: Y :: Lf)))) : St Z w (A :: X :: Y :: (L ++ Lf)) := h.perm perm2.symm
theorem Src.slRB {P : Program} {w : World} {v : Value} {l : List UInt8} (h : SlR w v (bytesV l)) : Src P w v l.length 1 (bytesV l) := by
  have h2 := Src.slR (P := P) h
  have e : (bytesV l).length = l.length := by simp [bytesV]
  rwa [e] at h2
theorem drop_get {α : Type} {l : List α} {i : Nat} {a : α} (h : l[i]? = some a) : l.drop i = a :: l.drop (i + 1) := by
  obtain ⟨hlt, e⟩ := List.getElem?_eq_some_iff.1 h
  rw [List.drop_eq_getElem_cons hlt, e]
theorem SlR_at {Z w : World} {L : List HP} {i e n : Nat} {v : Value} {xs : List Value} (h : St Z w L) (hi : L[i]? = some (own e 1 v n xs)) : SlR w v xs := by
  obtain ⟨g, hg, hs⟩ := h.part hi
  exact SlR.ofOwn hg hs
theorem St.mid {Z w : World} (X : List HP) {M R : List HP} (h : St Z w (X ++ (M ++ R))) : St Z w (X ++ R) :=
  St.dropEnd (D := M) (h.perm (by
    have h1 : (X ++ (M ++ R)).Perm (X ++ (R ++ M)) := List.Perm.append_left X List.perm_append_comm
    rwa [← List.append_assoc X R M] at h1))
theorem St.rot {Z w : World} {A B D X Y : HP} {L R : List HP} (h : St Z w (A :: B :: D :: (L ++ (X :: Y :: R)))) : St Z w (X :: Y :: A :: B :: D :: (L ++ R)) := h.perm (by
  have h1 : (A :: B :: D :: (L ++ (X :: Y :: R))).Perm ((A :: B :: D :: L) ++ ([X, Y] ++ R)) := by simp
  have h2 : ((A :: B :: D :: L) ++ ([X, Y] ++ R)).Perm ([X, Y] ++ (A :: B :: D :: L) ++ R) := by
    rw [← List.append_assoc]; exact List.Perm.append_right R List.perm_append_comm
  exact h1.trans (h2.trans (by simp)))
theorem St.rot2 {Z w : World} {A B U V X Y : HP} {L M R : List HP} (h : St Z w (A :: X :: Y :: (M ++ (B :: U :: V :: (L ++ R))))) : St Z w (U :: V :: X :: Y :: R) := by
  have h1 := St.mid [X, Y] h.drop0
  have h2 : St Z w ([X, Y, B, U, V] ++ (L ++ R)) := h1
  have h3 : St Z w (X :: Y :: B :: U :: V :: R) := St.mid [X, Y, B, U, V] h2
  exact St.sub h3
/-- A slice whose elements have several cells, and which is only read. -/
def SlS (w : World) (v : Value) (n : Nat) (xs : List Value) : Prop := ∃ a c, v = .slice a n c ∧ ∀ j u, xs[j]? = some u → ∃ g off, a = some ⟨g, off, none⟩ ∧ w.cell? ⟨g, off + j, none⟩ = some u
theorem SlS_own {Z w : World} {L : List HP} {v : Value} {e sz n : Nat} {xs : List Value} (h : St Z w (own e sz v n xs :: L)) : SlS w v n xs := by
  obtain ⟨g, ⟨hl, hg⟩, hs⟩ := h.part0
  rcases hg with ⟨rfl, rfl, _⟩ | ⟨g', off, cap, cur, rfl, h1, h2, h3, rfl⟩
  · have : xs = [] := List.eq_nil_of_length_eq_zero (by simpa using hl)
    subst this
    exact ⟨none, 0, rfl, fun j u hj => by simp at hj⟩
  · refine ⟨some ⟨g', off, none⟩, cap, rfl, fun j u hj => ⟨g', off, rfl, ?_⟩⟩
    have hb : w.heap[g']? = some (.cells cur.toArray e (0, 0)) := hs g' _ (by simp [Hp.one])
    refine cell_of_block hb ?_
    have hlt := (List.getElem?_eq_some_iff.1 hj).1
    rw [← h3, List.getElem?_take] at hj
    split at hj
    · rw [List.getElem?_drop] at hj
      rw [List.getElem?_toArray]; exact hj
    · cases hj
theorem SlR_own1 {Z w : World} {L : List HP} {v : Value} {e n : Nat} {xs : List Value} (h : St Z w (own e 1 v n xs :: L)) : SlR w v xs := SlR_own h
section
variable {P : Program} {N : Nat} {E : En} {Z : World} {L : List HP} {F : HP → List HP} {C : World → Prop} {Q : Exit → Act → World → Prop} {ops : Array Oper} {rest : List Oper}
variable {d : Option Tmp} {x y z : Operand} {t ty u : TypeId} {pos : String} {aft : Array Edge} {g : Option (Nat × Bool)} {v vx vy : Value}
/-- An element's address, and what stands there. -/
theorem J.elemS {X : Act → World → Prop} {sz n i : Nat} {xs : List Value} {u0 : Value} (hr : ∀ w, C w → SlS w v n xs) (hi : xs[i * sz + 0]? = some u0)
    (k : ∀ gb o, elemAd v (i * sz) = some ⟨gb, o, none⟩ → (∃ b c, v = .slice b n c) → (∀ w, C w → ∀ q u, xs[i * sz + q]? = some u → w.cell? ⟨gb, o + q, none⟩ = some u) → J N E C X) : J N E C X := fun a w he hC => by
  obtain ⟨b0, c, rfl, hc⟩ := hr w hC
  obtain ⟨g, off, rfl, _⟩ := hc _ _ hi
  refine k g (off + i * sz) (by simp [elemAd, Addr.add_lit]) ⟨_, _, rfl⟩ (fun w' hC' q u hq => ?_) a w he hC
  obtain ⟨b1, c1, hv, hc1⟩ := hr w' hC'
  injection hv with hv
  obtain ⟨g', off', h6, h7⟩ := hc1 _ _ hq
  rw [← hv] at h6
  cases h6
  rw [show off + i * sz + q = off + (i * sz + q) by omega]; exact h7
theorem JM.elemS {Q : Act → World → Prop} {S : World → Prop} {Lo : List (Bool × Nat)} {sz n i : Nat} {xs : List Value} {u0 : Value} (hr : ∀ w, C w → SlS w v n xs) (hi : xs[i * sz + 0]? = some u0)
    (k : ∀ gb o, elemAd v (i * sz) = some ⟨gb, o, none⟩ → (∃ b c, v = .slice b n c) → (∀ w, C w → ∀ q u, xs[i * sz + q]? = some u → w.cell? ⟨gb, o + q, none⟩ = some u) → JM P N E S C ops Q Lo) : JM P N E S C ops Q Lo := fun a w he hC => by
  obtain ⟨b0, c, rfl, hc⟩ := hr w hC
  obtain ⟨g, off, rfl, _⟩ := hc _ _ hi
  refine k g (off + i * sz) (by simp [elemAd, Addr.add_lit]) ⟨_, _, rfl⟩ (fun w' hC' q u hq => ?_) a w he hC
  obtain ⟨b1, c1, hv, hc1⟩ := hr w' hC'
  injection hv with hv
  obtain ⟨g', off', h6, h7⟩ := hc1 _ _ hq
  rw [← hv] at h6
  cases h6
  rw [show off + i * sz + q = off + (i * sz + q) by omega]; exact h7
theorem three_cells {xs : List Value} {k : Nat} {a b c : Value} (c0 : xs[k + 0]? = some a) (c1 : xs[k + 1]? = some b) (c2 : xs[k + 2]? = some c) : ∀ j u, [a, b, c][j]? = some u → xs[k + j]? = some u
  | 0, u, h => by simp at h; rw [← h]; exact c0
  | 1, u, h => by simp at h; rw [← h]; exact c1
  | 2, u, h => by simp at h; rw [← h]; exact c2
  | j + 3, u, h => by simp at h
theorem Rd.ldAggC {b o : Nat} {cs : List Value} {ds : TypeDesc} (n : Nat) (ht : P.underlying ty = some ds) (hr : ds.isRow = true) (hz : (P.info? ty).map (·.size) = some n) (hn : cs.length = n) (hx : evE E x = some (.pointer (some ⟨b, o, none⟩))) (hc : ∀ w, C w → ∀ j u, cs[j]? = some u → w.cell? ⟨b, o + j, none⟩ = some u) :
    Rd P N E C ⟨d, .load ty x, t, pos, aft, g⟩ (.agg cs.toArray) := fun a w he hC => by
  have hl := run_loadVar_mid (P := P) w b o ty cs ds (fun j v hv => hc w hC j v hv) ht hr (by rw [hz, hn])
  simp only [execOp, he.eval hx, Instr.loadAt]
  simp [Instr.sureAddr, hl]
end
end Go.Sb
