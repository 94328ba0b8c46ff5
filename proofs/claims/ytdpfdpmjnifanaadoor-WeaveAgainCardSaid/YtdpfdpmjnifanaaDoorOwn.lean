/- Slices that the call owns: a row of cells, told whole where it is used; append, elements, cuts. Over any program. -/
import Derived.Test.YtdpfdpmjnifanaaDoorMem
namespace Go.Sb
open Go Go.RowKit
set_option linter.unusedSimpArgs false
set_option linter.unusedVariables false

/-- THE SLICE v, OF n ELEMENTS OF TYPE e (sz CELLS EACH), HOLDS xs, AND NOBODY ELSE HAS ITS ROW. -/
def own (e sz : Nat) (v : Value) (n : Nat) (xs : List Value) : HP := fun h =>
  xs.length = n * sz ∧ ((v = .slice none 0 0 ∧ n = 0 ∧ h = Hp.emp) ∨
    ∃ g off cap cur, v = .slice (some ⟨g, off, none⟩) n cap ∧ n ≤ cap ∧ off + cap * sz ≤ cur.length ∧ (cur.drop off).take (n * sz) = xs ∧ h = Hp.one g (.cells (List.toArray cur) e (0, 0)))
class HasO (v : Value) (L : List HP) (e sz n : outParam Nat) (xs : outParam (List Value)) (F : outParam (HP → List HP)) : Prop where
  eq : ∃ i, L[i]? = some (own e sz v n xs) ∧ ∀ Y, F Y = L.set i Y
instance HasO.head {v : Value} {e sz n : Nat} {xs : List Value} {L : List HP} : HasO v (own e sz v n xs :: L) e sz n xs (fun Y => Y :: L) := ⟨0, rfl, fun _ => rfl⟩
instance (priority := low) HasO.tail {v : Value} {e sz n : Nat} {xs : List Value} {A : HP} {L : List HP} {F : HP → List HP} [h : HasO v L e sz n xs F] : HasO v (A :: L) e sz n xs (fun Y => A :: F Y) :=
  let ⟨i, h1, h2⟩ := h.eq; ⟨i + 1, by simpa using h1, fun Y => by simp [h2 Y]⟩
theorem St.hasO {Z w : World} {v : Value} {e sz n : Nat} {xs : List Value} {L : List HP} {F : HP → List HP} [k : HasO v L e sz n xs F] (h : St Z w L) : ∃ L1, St Z w (own e sz v n xs :: L1) ∧ ∀ Y, (Y :: L1).Perm (F Y) := by
  obtain ⟨i, h1, h2⟩ := k.eq
  exact ⟨L.eraseIdx i, h.front h1, fun Y => by rw [h2]; exact set_erase _ Y h1⟩

class RemO (v : Value) (L : List HP) (e sz n : outParam Nat) (xs : outParam (List Value)) (L' : outParam (List HP)) : Prop where
  perm : L.Perm (own e sz v n xs :: L')
instance RemO.head {v : Value} {e sz n : Nat} {xs : List Value} {L : List HP} : RemO v (own e sz v n xs :: L) e sz n xs L := ⟨.refl _⟩
instance (priority := low) RemO.tail {v : Value} {e sz n : Nat} {xs : List Value} {A : HP} {L L' : List HP} [h : RemO v L e sz n xs L'] : RemO v (A :: L) e sz n xs (A :: L') := ⟨(h.perm.cons A).trans (.swap _ A L')⟩
/-- An owned slice is put ahead of the others. -/
theorem St.pullO {Z w : World} {L : List HP} (v : Value) {e sz n : Nat} {xs : List Value} {L' : List HP} [k : RemO v L e sz n xs L'] (h : St Z w L) : St Z w (own e sz v n xs :: L') := h.perm k.perm
theorem St.dropO {Z w : World} {L : List HP} (v : Value) {e sz n : Nat} {xs : List Value} {L' : List HP} [k : RemO v L e sz n xs L'] (h : St Z w L) : St Z w L' := (h.perm k.perm).drop0
theorem St.pullP {Z w : World} {L : List HP} (b : Nat) {o : Obj} {L' : List HP} [k : RemP b L o L'] (h : St Z w L) : St Z w (pts b o :: L') := h.perm k.perm
theorem St.dropP {Z w : World} {L : List HP} (b : Nat) {o : Obj} {L' : List HP} [k : RemP b L o L'] (h : St Z w L) : St Z w L' := (h.perm k.perm).drop0
theorem St.pull {Z w : World} {L : List HP} (X : HP) {L' : List HP} [k : Rem X L L'] (h : St Z w L) : St Z w (X :: L') := h.perm k.perm
theorem own_nil (e sz : Nat) : ∀ h, emp h → own e sz (.slice none 0 0) 0 [] h := fun h hh => ⟨by simp, .inl ⟨rfl, rfl, hh⟩⟩
theorem St.ownNil {Z w : World} {L : List HP} (e sz : Nat) (h : St Z w L) : St Z w (own e sz (.slice none 0 0) 0 [] :: L) := h.emp0.conv0 (own_nil e sz)
/-- A row just made is owned. -/
theorem own_row {e sz n : Nat} {b : Nat} {cs : List Value} (hl : cs.length = n * sz) : ∀ h, pts b (.cells cs.toArray e (0, 0)) h → own e sz (.slice (some ⟨b, 0, none⟩) n n) n cs h := fun h hh =>
  ⟨hl, .inr ⟨b, 0, n, cs, rfl, Nat.le_refl _, by omega, by simp [← hl], hh⟩⟩
theorem own_len {e sz n : Nat} {v : Value} {xs : List Value} {h : Hp} (hh : own e sz v n xs h) : xs.length = n * sz := hh.1
theorem St.ownLen {Z w : World} {L : List HP} {e sz n : Nat} {v : Value} {xs : List Value} {F : HP → List HP} [HasO v L e sz n xs F] (h : St Z w L) : xs.length = n * sz := by
  obtain ⟨L1, h1, _⟩ := h.hasO (v := v); obtain ⟨g, hg, _⟩ := h1.part0; exact hg.1
/-- What the value is. -/
theorem St.ownVal {Z w : World} {L : List HP} {e sz n : Nat} {v : Value} {xs : List Value} {F : HP → List HP} [HasO v L e sz n xs F] (h : St Z w L) : ∃ b c, v = .slice b n c := by
  obtain ⟨L1, h1, _⟩ := h.hasO (v := v)
  obtain ⟨g, ⟨_, hg⟩, _⟩ := h1.part0
  rcases hg with ⟨rfl, rfl, _⟩ | ⟨g, off, cap, cur, rfl, _⟩
  · exact ⟨_, _, rfl⟩
  · exact ⟨_, _, rfl⟩

/-! ### What an append takes -/
/-- x, in each world whose heap is w's, brings m elements with the cells 'news'. -/
structure Src (P : Program) (w : World) (x : Value) (m sz : Nat) (news : List Value) : Prop where
  len : ∀ w', (Builtin.lenOf x).run P w' = .ok m w'
  cells : ∀ w', w'.heap = w.heap → (Builtin.firstCells sz m x).run P w' = .ok news.toArray w'
  count : news.length = m * sz
theorem Src.slice {P : Program} {w : World} {a : Addr} {m c sz : Nat} {news : List Value} (hl : news.length = m * sz) (h : ∀ j v, news[j]? = some v → w.cell? (a.add j) = some v) : Src P w (.slice (some a) m c) m sz news :=
  ⟨fun _ => rfl, fun w' hw' => run_firstCells_some w' sz m a m c news hl (fun j v hj => by rw [World.cell?_of_block (w := w) (by rw [hw'])]; exact h j v hj), hl⟩
theorem Src.none_ {P : Program} {w : World} {c sz : Nat} : Src P w (.slice none 0 c) 0 sz [] := ⟨fun _ => rfl, fun w' _ => run_firstCells_none w' sz 0 0 c, by simp⟩
def bytesV (l : List UInt8) : List Value := l.map fun b => .int .u8 b.toNat
theorem Src.string {P : Program} {w : World} {s : ByteArray} : Src P w (.string s) s.size 1 (bytesV s.data.toList) :=
  ⟨fun _ => rfl, fun w' _ => by
    have hx : s.extract 0 s.size = s := by simp
    simp only [Builtin.firstCells, hx, bytesV, Sem.run_pure]
    congr 1
    apply Array.ext'
    simp, by simp [bytesV]⟩
theorem Src.row {P : Program} {w : World} {b m c e sz : Nat} {cs : List Value} {fr : Nat × Nat} (hb : w.heap[b]? = some (.cells cs.toArray e fr)) (hl : cs.length = m * sz) : Src P w (.slice (some ⟨b, 0, none⟩) m c) m sz cs :=
  Src.slice hl (fun j v hj => by
    have : Addr.add ⟨b, 0, none⟩ j = ⟨b, j, none⟩ := by unfold Addr.add; split <;> simp_all
    rw [this]
    exact cell_of_block hb (by simpa using hj))
theorem own_cells {w : World} {e sz n : Nat} {b : Option Addr} {c : Nat} {xs : List Value} {g : Hp} (h : own e sz (.slice b n c) n xs g) (hs : Hp.sub g w) : ∀ j v, xs[j]? = some v → ∃ a, b = some a ∧ w.cell? (a.add j) = some v := by
  intro j v hj
  obtain ⟨hl, h⟩ := h
  rcases h with ⟨hv, rfl, _⟩ | ⟨g, off, cap, cur, hv, hn, hc, ht, rfl⟩
  · have hlt := (List.getElem?_eq_some_iff.1 hj).1
    omega
  · injection hv with hv
    subst hv
    have hb : w.heap[g]? = some (.cells cur.toArray e (0, 0)) := hs g _ (by simp [Hp.one])
    refine ⟨_, rfl, ?_⟩
    have hadd : Addr.add ⟨g, off, none⟩ j = ⟨g, off + j, none⟩ := by unfold Addr.add; split <;> simp_all
    rw [hadd]
    refine cell_of_block hb ?_
    have hlt := (List.getElem?_eq_some_iff.1 hj).1
    rw [← ht, List.getElem?_take] at hj
    split at hj
    · simpa [List.getElem?_drop] using hj
    · cases hj
theorem Src.own {P : Program} {w : World} {e sz n : Nat} {v : Value} {xs : List Value} {g : Hp} (h : own e sz v n xs g) (hs : Hp.sub g w) : Src P w v n sz xs := by
  have hl := h.1
  have h' := h
  rcases h.2 with ⟨rfl, rfl, _⟩ | ⟨g', off, cap, cur, rfl, _⟩
  · have : xs = [] := List.eq_nil_of_length_eq_zero (by simpa using hl)
    subst this
    exact Src.none_
  · refine Src.slice hl (fun j v hj => ?_)
    obtain ⟨a, ha, hc⟩ := own_cells h' hs j v hj
    cases ha
    exact hc

/-- The heart of an append to an owned slice: what is asked of its run in each of three cases. -/
theorem append_core {P : Program} {Z w : World} {L : List HP} {e sz n m : Nat} {v : Value} {xs news : List Value} {z : Value} {app : Sem Value} (hzs : z.cells.size = sz) (hcount : news.length = m * sz) (h : St Z w (own e sz v n xs :: L))
    (hroom : ∀ (g off cap : Nat) (cur : List Value), v = .slice (some ⟨g, off, none⟩) n cap → n + m ≤ cap → w.heap[g]? = some (.cells (List.toArray cur) e (0, 0)) → off + n * sz + news.length ≤ cur.length →
      app.run P w = .ok (.slice (some ⟨g, off, none⟩) (n + m) cap) (w.setRow g (cur.take (off + n * sz) ++ news ++ cur.drop (off + n * sz + news.length)).toArray))
    (hgrow : ∀ (old : Nat) (b : Option Addr), v = .slice b n old → old < n + m → (Builtin.firstCells sz n v).run P w.drew = .ok xs.toArray w.drew →
      app.run P w = .ok (.slice (some ⟨w.heap.size, 0, none⟩) (n + m) (grownCap w (n + m) old e)) (w.drew.alloc (.cells (xs.toArray ++ news.toArray ++ Builtin.zeroCells z.cells (grownCap w (n + m) old e - (n + m))) e)))
    (hnil : v = .slice none 0 0 → m = 0 → app.run P w = .ok (.slice none 0 0) w) :
    ∃ v' w', app.run P w = .ok v' w' ∧ St Z w' (own e sz v' (n + m) (xs ++ news) :: L) := by
  obtain ⟨g0, hown, hst⟩ := h.open0
  have hsub : Hp.sub g0 w := by obtain ⟨k, hk, hs⟩ := hst.part0; cases hk; exact hs
  have hxl := hown.1
  have hlen : (xs ++ news).length = (n + m) * sz := by rw [List.length_append, hxl, hcount, Nat.add_mul]
  have grow : ∀ (old : Nat) (b : Option Addr), v = .slice b n old → old < n + m → (Builtin.firstCells sz n v).run P w.drew = .ok xs.toArray w.drew →
      ∃ v' w', app.run P w = .ok v' w' ∧ St Z w' (own e sz v' (n + m) (xs ++ news) :: L) := by
    intro old b hv hold hf
    have hge := grownCap_ge w (n + m) old e
    refine ⟨_, _, hgrow old b hv hold hf, ?_⟩
    have h2 : St Z w L := hst.drop0
    have h3 := h2.new0 (o := .cells (xs.toArray ++ news.toArray ++ Builtin.zeroCells z.cells (grownCap w (n + m) old e - (n + m))) e)
      (w' := w.drew.alloc (.cells (xs.toArray ++ news.toArray ++ Builtin.zeroCells z.cells (grownCap w (n + m) old e - (n + m))) e)) ⟨rfl, rfl, rfl⟩ rfl
    refine h3.conv0 (fun k hk => ⟨hlen, .inr ⟨w.heap.size, 0, grownCap w (n + m) old e, (xs ++ news) ++ (Builtin.zeroCells z.cells (grownCap w (n + m) old e - (n + m))).toList, rfl, hge, ?_, ?_, ?_⟩⟩)
    · rw [List.length_append, hlen]
      have : (Builtin.zeroCells z.cells (grownCap w (n + m) old e - (n + m))).toList.length = (grownCap w (n + m) old e - (n + m)) * sz := by
        rw [Array.length_toList, size_zeroCells, hzs]
      rw [this, ← Nat.add_mul]
      simp only [Nat.zero_add]
      exact Nat.mul_le_mul_right _ (by omega)
    · simp only [List.drop_zero]
      rw [← hlen]
      exact List.take_left
    · rw [hk]
      congr 2
      apply Array.ext'
      simp
  rcases hown.2 with ⟨rfl, rfl, rfl⟩ | ⟨g, off, cap, cur, rfl, hnc, hcl, htake, rfl⟩
  · have hx0 : xs = [] := List.eq_nil_of_length_eq_zero (by simpa using hxl)
    subst hx0
    by_cases hm : m = 0
    · subst hm
      have hn : news = [] := List.eq_nil_of_length_eq_zero (by simpa using hcount)
      subst hn
      exact ⟨.slice none 0 0, w, hnil rfl rfl, hst.conv0 (fun k hk => ⟨by simp, .inl ⟨rfl, rfl, hk⟩⟩)⟩
    · exact grow 0 none rfl (by omega) (by rw [run_firstCells_none])
  · by_cases hr : n + m ≤ cap
    · have hb : w.heap[g]? = some (.cells (List.toArray cur) e (0, 0)) := hsub g _ (by simp [Hp.one])
      have hmul : (n + m) * sz ≤ cap * sz := Nat.mul_le_mul_right _ hr
      rw [Nat.add_mul] at hmul
      refine ⟨_, _, hroom g off cap cur rfl hr hb (by omega), ?_⟩
      have hset := setRow_heap w g (List.toArray cur) (cur.take (off + n * sz) ++ news ++ cur.drop (off + n * sz + news.length)).toArray e (0, 0) hb
      have h0 : St Z w (pts g (.cells (List.toArray cur) e (0, 0)) :: L) := hst
      have h3 := h0.set0 (w' := w.setRow g (cur.take (off + n * sz) ++ news ++ cur.drop (off + n * sz + news.length)).toArray) ⟨rfl, rfl, rfl⟩ hset (fun k hk => by
        simp only [World.setRow, Array.getElem?_modify]; rw [if_neg (by omega)])
      refine h3.conv0 (fun k hk => ⟨hlen, .inr ⟨g, off, cap, cur.take (off + n * sz) ++ news ++ cur.drop (off + n * sz + news.length), rfl, hr, ?_, ?_, hk⟩⟩)
      · simp only [List.length_append, List.length_take, List.length_drop]; omega
      · have e1 : (cur.take (off + n * sz) ++ news ++ cur.drop (off + n * sz + news.length)).drop off = (cur.drop off).take (n * sz) ++ news ++ cur.drop (off + n * sz + news.length) := by
          rw [List.append_assoc, List.drop_append_of_le_length (by simp; omega), List.drop_take, List.append_assoc]
          congr 2
          omega
        rw [e1, htake, ← hlen]
        exact List.take_left
    · refine grow cap _ rfl (by omega) ?_
      exact (Src.own (P := P) (w := w) (hown) hsub).cells w.drew rfl
/-- AN APPEND TO AN OWNED SLICE. -/
theorem run_append {P : Program} {Z w : World} {L : List HP} {t u ty e sz n m bytes : Nat} {v x : Value} {xs news : List Value} {i : TypeInfo} {z : Value} {du : TypeDesc}
    (ht : P.underlying t = some (.slice e)) (hu : P.underlying u = some du) (hdu : (∃ e', du = .slice e') ∨ du = .string) (hi : P.info? e = some i) (hz : i.zero = some z) (hsz : i.size = sz) (hzs : z.cells.size = sz)
    (hby : i.bytes = bytes) (_ : 0 < sz) (h1 : ∀ c ∈ news, c.oneCell' = true) (hfit : (n + m) * bytes ≤ 140737488355328) (h63 : n + m ≤ 4611686018427387904)
    (h : St Z w (own e sz v n xs :: L)) (src : Src P w x m sz news) :
    ∃ v' w', (Builtin.append_ #[t, u] ty #[v, x]).run P w = .ok v' w' ∧ St Z w' (own e sz v' (n + m) (xs ++ news) :: L) := by
  subst hsz; subst hby
  refine append_core (z := z) hzs src.count h ?_ ?_ ?_
  · intro g off cap cur hv hroom hb hlen
    subst hv
    have hf := src.cells w rfl
    have hst2 := run_storeCells_at P g (off + n * i.size) e news 0 (List.toArray cur) w hb (by simpa using hlen) h1
    have hadd : Addr.add ⟨g, off, none⟩ (n * i.size) = ⟨g, off + n * i.size, none⟩ := by unfold Addr.add; split <;> simp_all
    simp only [Nat.add_zero] at hst2
    rcases hdu with ⟨e', rfl⟩ | rfl <;> (simp [Builtin.append_, run_underlying ht, run_underlying hu, sizeOf, typeInfo, hi, src.len, hroom, hf, hadd, hst2])
  · intro old b hv hold hf
    subst hv
    have hn : ¬ (n + m ≤ old) := by omega
    have hfit' := growslice_fits (old := old) (bytes := i.bytes) hold hfit
    have h48 : ¬ (281474976710656 < Builtin.nextslicecap (n + m) old * i.bytes) := by omega
    have h63' : ¬ ((9223372036854775807 : Int) < (n : Int) + (m : Int)) := by omega
    have hf2 := src.cells w.drew rfl
    rcases hdu with ⟨e', rfl⟩ | rfl <;> (simp [Builtin.append_, run_underlying ht, run_underlying hu, sizeOf, typeInfo, zeroValue, hi, hz, src.len, hn, h63', h48, Question.forced, hf, hf2, newRow, grownCap]; congr 2; apply Array.ext'; simp)
  · intro hv hm
    subst hv; subst hm
    have hf := src.cells w rfl
    have hn : news = [] := List.eq_nil_of_length_eq_zero (by simpa using src.count)
    subst hn
    rcases hdu with ⟨e', rfl⟩ | rfl <;> simp [Builtin.append_, run_underlying ht, run_underlying hu, sizeOf, typeInfo, hi, src.len, hf]
/-- 'append(xs, make([]T, m)...)', an element of one cell. -/
theorem run_appendZ {P : Program} {Z w : World} {L : List HP} {t u ty e n m bytes : Nat} {v : Value} {xs : List Value} {k k' : IntKind} {i : TypeInfo} {z : Value}
    (ht : P.underlying t = some (.slice e)) (hu : P.underlying u = some (.int k)) (hi : P.info? e = some i) (hz : i.zero = some z) (hsz : i.size = 1) (hzs : z.cells = #[z])
    (hby : i.bytes = bytes) (h1 : z.oneCell' = true) (hfit : (n + m) * bytes ≤ 140737488355328) (h63 : n + m ≤ 4611686018427387904) (h : St Z w (own e 1 v n xs :: L)) :
    ∃ v' w', (Builtin.append_ #[t, u] ty #[v, .int k' (m : Int)]).run P w = .ok v' w' ∧ St Z w' (own e 1 v' (n + m) (xs ++ List.replicate m z) :: L) := by
  subst hby
  have hw : IntKind.i64.wrap (m : Int) = (m : Int) := IntWalk.i64_in _ (by omega)
  have hw0 : IntKind.i64.wrap 0 = 0 := by decide
  have hm0 : ¬ ((m : Int) < 0) := by omega
  have hm48 : ¬ ((281474976710656 : Int) < (m : Int) * (i.bytes : Int)) := by
    have h2 : m * i.bytes ≤ (n + m) * i.bytes := Nat.mul_le_mul_right _ (by omega)
    have h3 : ((m * i.bytes : Nat) : Int) ≤ 140737488355328 := by omega
    rw [Int.natCast_mul] at h3
    omega
  have hzc : ∀ q : Nat, Builtin.zeroCells #[z] q = (List.replicate q z).toArray := fun q => by
    unfold Builtin.zeroCells
    apply Array.ext
    · simp
    · intro j h6 h7; simp [Nat.mod_one]
  refine append_core (z := z) (by rw [hzs]; rfl) (by simp) h ?_ ?_ ?_
  · intro g off cap cur hv hroom hb hlen
    subst hv
    have hst2 := run_storeCells_at P g (off + n * 1) e (List.replicate m z) 0 (List.toArray cur) w hb (by simpa using hlen) (fun c hc => by rw [List.eq_of_mem_replicate hc]; exact h1)
    have hadd : Addr.add ⟨g, off, none⟩ n = ⟨g, off + n, none⟩ := by unfold Addr.add; split <;> simp_all
    simp only [Nat.add_zero, Nat.mul_one] at hst2
    by_cases hm : m = 0
    · subst hm
      simp only [List.replicate_zero] at hst2
      simp [Builtin.append_, run_underlying ht, run_underlying hu, sizeOf, typeInfo, hi, hz, hsz, asInt, asIntOf, hw0, show n ≤ cap by omega, hadd, hst2]
    · simp [Builtin.append_, run_underlying ht, run_underlying hu, sizeOf, typeInfo, zeroValue, hi, hz, hsz, hzs, hzc, asInt, asIntOf, hw, hm0, hm48, hm, hroom, hadd, hst2]
  · intro old b hv hold hf
    subst hv
    have hn : ¬ (n + m ≤ old) := by omega
    have hfit' := growslice_fits (old := old) (bytes := i.bytes) hold hfit
    have h48 : ¬ (281474976710656 < Builtin.nextslicecap (n + m) old * i.bytes) := by omega
    have h63' : ¬ ((9223372036854775807 : Int) < (n : Int) + (m : Int)) := by omega
    by_cases hm : m = 0
    · subst hm
      simp [Builtin.append_, run_underlying ht, run_underlying hu, sizeOf, typeInfo, zeroValue, hi, hz, hsz, hzs, hzc, asInt, asIntOf, hw0, show ¬ n ≤ old by omega, show ¬ ((9223372036854775807 : Int) < (n : Int)) by omega, show ¬ (281474976710656 < Builtin.nextslicecap n old * i.bytes) by simpa using h48, Question.forced, hf, newRow, grownCap]
    · simp [Builtin.append_, run_underlying ht, run_underlying hu, sizeOf, typeInfo, zeroValue, hi, hz, hsz, hzs, hzc, asInt, asIntOf, hw, hm0, hm48, hm, hn, h63', h48, Question.forced, hf, newRow, grownCap]
  · intro hv hm
    subst hv; subst hm
    simp [Builtin.append_, run_underlying ht, run_underlying hu, sizeOf, typeInfo, hi, hz, hsz, asInt, asIntOf, hw0]

variable {P : Program} {N : Nat} {E : En} {Z : World} {L : List HP} {F : HP → List HP} {C D : World → Prop} {Q : Exit → Act → World → Prop} {ops : Array Oper} {rest : List Oper}
section
variable {d : Option Tmp} {x y z : Operand} {t ty u : TypeId} {pos : String} {aft : Array Edge} {g : Option (Nat × Bool)} {v vx vy : Value}
theorem J.append {s e sz n m bytes : Nat} {xs news : List Value} {i : TypeInfo} {zv : Value} {du : TypeDesc} (hx : evE E x = some v) (hy : evE E y = some vy) [HasO v L e sz n xs F]
    (ht : P.underlying t = some (.slice e)) (hu : P.underlying u = some du) (hdu : (∃ e', du = .slice e') ∨ du = .string) (hi : P.info? e = some i) (hz : i.zero = some zv) (hsz : i.size = sz) (hzs : zv.cells.size = sz)
    (hby : i.bytes = bytes) (hpos : 0 < sz) (h1 : ∀ c ∈ news, c.oneCell' = true) (hfit : (n + m) * bytes ≤ 140737488355328) (h63 : n + m ≤ 4611686018427387904)
    (hsrc : ∀ w, St Z w L → Src P w vy m sz news) (hw : want ops E ⟨some s, .call ⟨.builtin .append, #[x, y], #[t, u]⟩, ty, pos, aft, g⟩ = some true) (hd : dstOk N (some s) = true)
    (k : ∀ b' c', J N ((s, .slice b' (n + m) c') :: E) (Sto Z (F (own e sz (.slice b' (n + m) c') (n + m) (xs ++ news)))) (wpList P ops Q rest)) :
    J N E (Sto Z L) (wpList P ops Q (⟨some s, .call ⟨.builtin .append, #[x, y], #[t, u]⟩, ty, pos, aft, g⟩ :: rest)) :=
  J.step (α := Option Addr × Nat) (fun q => .slice q.1 (n + m) q.2) (fun q => Sto Z (F (own e sz (.slice q.1 (n + m) q.2) (n + m) (xs ++ news)))) hw hd (fun a w he hC => by
    obtain ⟨L1, h2, h3⟩ := St.hasO (v := v) hC
    obtain ⟨v', w', hr, hst⟩ := run_append (ty := ty) ht hu hdu hi hz hsz hzs hby hpos h1 hfit h63 h2 (hsrc w hC)
    obtain ⟨b', c', rfl⟩ := St.ownVal (v := v') hst
    refine ⟨(b', c'), w', ?_, hst.perm (h3 _)⟩
    simp [execOp, resolve, invoke, builtin, he.eval hx, he.eval hy, hr]) (fun q => k q.1 q.2)
/-- 'append(xs, make([]T, m)...)': m zero elements. -/
theorem J.appendZ {s e n m bytes : Nat} {xs : List Value} {i : TypeInfo} {zv : Value} {k' k'' : IntKind} (hx : evE E x = some v) (hy : evE E y = some (.int k' (m : Int))) [HasO v L e 1 n xs F]
    (ht : P.underlying t = some (.slice e)) (hu : P.underlying u = some (.int k'')) (hi : P.info? e = some i) (hz : i.zero = some zv) (hsz : i.size = 1) (hzs : zv.cells = #[zv])
    (hby : i.bytes = bytes) (h1 : zv.oneCell' = true) (hfit : (n + m) * bytes ≤ 140737488355328) (h63 : n + m ≤ 4611686018427387904)
    (hw : want ops E ⟨some s, .call ⟨.builtin .append, #[x, y], #[t, u]⟩, ty, pos, aft, g⟩ = some true) (hd : dstOk N (some s) = true)
    (k : ∀ b' c', J N ((s, .slice b' (n + m) c') :: E) (Sto Z (F (own e 1 (.slice b' (n + m) c') (n + m) (xs ++ List.replicate m zv)))) (wpList P ops Q rest)) :
    J N E (Sto Z L) (wpList P ops Q (⟨some s, .call ⟨.builtin .append, #[x, y], #[t, u]⟩, ty, pos, aft, g⟩ :: rest)) :=
  J.step (α := Option Addr × Nat) (fun q => .slice q.1 (n + m) q.2) (fun q => Sto Z (F (own e 1 (.slice q.1 (n + m) q.2) (n + m) (xs ++ List.replicate m zv)))) hw hd (fun a w he hC => by
    obtain ⟨L1, h2, h3⟩ := St.hasO (v := v) hC
    obtain ⟨v', w', hr, hst⟩ := run_appendZ (ty := ty) (k' := k') ht hu hi hz hsz hzs hby h1 hfit h63 h2
    obtain ⟨b', c', rfl⟩ := St.ownVal (v := v') hst
    refine ⟨(b', c'), w', ?_, hst.perm (h3 _)⟩
    simp [execOp, resolve, invoke, builtin, he.eval hx, he.eval hy, hr]) (fun q => k q.1 q.2)
/-- A row just made, from here on an owned slice. -/
theorem J.ownRow {X : Act → World → Prop} {b e n : Nat} {cs : List Value} {L' : List HP} (hl : cs.length = n) [h : RemP b L (.cells cs.toArray e (0, 0)) L'] (k : J N E (Sto Z (own e 1 (.slice (some ⟨b, 0, none⟩) n n) n cs :: L')) X) : J N E (Sto Z L) X :=
  J.conv (fun _ hw => (St.perm hw h.perm).conv0 (own_row (by omega))) k
theorem Src_rowP {w : World} {b m c e sz : Nat} {cs : List Value} {fr : Nat × Nat} [HasP b L (.cells cs.toArray e fr) F] (h : St Z w L) (hl : cs.length = m * sz) : Src P w (.slice (some ⟨b, 0, none⟩) m c) m sz cs := Src.row (St.blockP (b := b) h) hl
theorem Src_own {w : World} {e sz n : Nat} {xs : List Value} [HasO v L e sz n xs F] (h : St Z w L) : Src P w v n sz xs := by
  obtain ⟨L1, h1, _⟩ := h.hasO (v := v)
  obtain ⟨g, hg, hs⟩ := h1.part0
  exact Src.own hg hs
theorem Rd.lenOwn {n e sz : Nat} {e' : TypeId} {xs : List Value} {at_ : Array TypeId} (hx : evE E x = some v) [HasO v L e sz n xs F] (hat : at_[0]? = some ty) (ht : P.underlying ty = some (.slice e')) :
    Rd P N E (Sto Z L) ⟨d, .call ⟨.builtin .len, #[x], at_⟩, t, pos, aft, g⟩ (.int .i64 n) := fun a w he hC => by
  obtain ⟨L1, h1, _⟩ := St.hasO (v := v) hC
  obtain ⟨g, ⟨_, hg⟩, _⟩ := h1.part0
  rcases hg with ⟨rfl, rfl, _⟩ | ⟨g, off, cap, cur, rfl, _⟩ <;> simp [execOp, resolve, invoke, builtin, Builtin.len_, hat, he.eval hx, run_underlying ht, goInt]
/-- The address of an element of an owned slice, and the element's cell. -/
theorem J.indexOwn {s e sz n i : Nat} {e' : TypeId} {xs : List Value} {j : TypeInfo} {k : IntKind} (hx : evE E x = some v) (hy : evE E y = some (.int k (i : Int))) [HasO v L e sz n xs F] (ht : P.underlying ty = some (.slice e'))
    (hj : P.info? e' = some j) (hs : j.size = sz) (hi : i < n) (hw : want ops E ⟨some s, .indexAddr ty x y, t, pos, aft, g⟩ = some true) (hd : dstOk N (some s) = true)
    (kk : ∀ ad : Addr, (∀ w, St Z w L → ∀ q u, q < sz → xs[i * sz + q]? = some u → w.cell? (ad.add q) = some u) → J N ((s, .pointer (some ad)) :: E) (Sto Z L) (wpList P ops Q rest)) :
    J N E (Sto Z L) (wpList P ops Q (⟨some s, .indexAddr ty x y, t, pos, aft, g⟩ :: rest)) := by
  intro a w he hC
  obtain ⟨b0, c0, rfl⟩ : ∃ b c, v = .slice b n c := by
    obtain ⟨L1, h1, _⟩ := St.hasO (v := v) hC
    obtain ⟨g, ⟨_, hg⟩, _⟩ := h1.part0
    rcases hg with ⟨rfl, rfl, _⟩ | ⟨g, off, cap, cur, rfl, _⟩ <;> exact ⟨_, _, rfl⟩
  have hcells : ∀ w, St Z w L → ∀ q u, xs[q]? = some u → ∃ a, b0 = some a ∧ w.cell? (a.add q) = some u := by
    intro w hC q u hq
    obtain ⟨L1, h1, _⟩ := St.hasO (v := .slice b0 n c0) hC
    obtain ⟨g, hg, hs⟩ := h1.part0
    exact own_cells hg hs q u hq
  have hb : ∃ b, b0 = some b := by
    obtain ⟨L1, h1, _⟩ := St.hasO (v := .slice b0 n c0) hC
    obtain ⟨g, ⟨_, hg⟩, _⟩ := h1.part0
    rcases hg with ⟨h0, h2, _⟩ | ⟨g, off, cap, cur, h0, _⟩
    · omega
    · injection h0 with h0; exact ⟨_, h0⟩
  obtain ⟨b, rfl⟩ := hb
  refine J.rd (Rd.indexSl hx hy ht hj hs hi) hw hd (kk _ ?_) a w he hC
  intro w' hC' q u hq hu
  obtain ⟨a', ha', hc'⟩ := hcells w' hC' _ u hu
  cases ha'
  have hadd : (b.add (i * sz)).add q = b.add (i * sz + q) := by
    obtain ⟨bb, bo, bs⟩ := b
    unfold Addr.add
    repeat' split
    all_goals first | omega | (simp_all; done) | (congr 1; simp; omega) | skip
  rw [hadd]
  exact hc'
end
end Go.Sb
