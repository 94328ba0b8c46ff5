/- Pieces of slices; the least and the greatest of two numbers. Over any program. -/
import Derived.Test.YtdpfdpmjnifanaaDoorIface
import Derived.DataElems
import Derived.Lib.MinMax
namespace Go.Sb
open Go Go.RowKit
set_option linter.unusedSimpArgs false
set_option linter.unusedVariables false
/-- v[l:h]. -/
def cutV (v : Value) (l h : Nat) : Value := match v with
  | .slice a _ c => .slice (if c = l then a else a.map (·.add l)) (h - l) (c - l)
  | v => v
def CapOk (v : Value) : Prop := ∃ a n c, v = .slice a n c ∧ n ≤ c
theorem CapOk_own {Z w : World} {L : List HP} {F : HP → List HP} {v : Value} {e sz n : Nat} {xs : List Value} [HasO v L e sz n xs F] (h : St Z w L) : CapOk v := by
  obtain ⟨L1, h1, _⟩ := h.hasO (v := v)
  obtain ⟨g, ⟨_, hg⟩, _⟩ := h1.part0
  rcases hg with ⟨rfl, _, _⟩ | ⟨g, off, cap, cur, rfl, hn, _⟩
  · exact ⟨none, 0, 0, rfl, by omega⟩
  · exact ⟨_, _, _, rfl, hn⟩
theorem CapOk.cut {v : Value} {l h : Nat} (hc : CapOk v) (hh : ∀ a n c, v = .slice a n c → h ≤ n) : CapOk (cutV v l h) := by
  obtain ⟨a, n, c, rfl, hn⟩ := hc
  have := hh a n c rfl
  exact ⟨_, _, _, rfl, by omega⟩
theorem SlR.cut {w : World} {v : Value} {xs : List Value} {l h : Nat} (hr : SlR w v xs) (hc : CapOk v) (h1 : l ≤ h) (h2 : h ≤ xs.length) : SlR w (cutV v l h) ((xs.drop l).take (h - l)) := by
  obtain ⟨a, c, rfl, hx⟩ := hr
  obtain ⟨a', n', c', e, hn⟩ := hc
  injection e with e1 e2 e3
  subst e1; subst e2; subst e3
  have hl : ((xs.drop l).take (h - l)).length = h - l := by simp; omega
  refine ⟨if c = l then a else a.map (·.add l), c - l, by rw [hl]; rfl, fun j u hj => ?_⟩
  have hlt := (List.getElem?_eq_some_iff.1 hj).1
  rw [hl] at hlt
  rw [List.getElem?_take, if_pos hlt, List.getElem?_drop] at hj
  obtain ⟨b, hb, hcell⟩ := hx (l + j) u hj
  subst hb
  rw [if_neg (by omega)]
  exact ⟨b.add l, rfl, by rw [Addr.add_add]; exact hcell⟩
theorem SlR.cutD {w : World} {v : Value} {xs : List Value} {l : Nat} (hr : SlR w v xs) (hc : CapOk v) (h1 : l ≤ xs.length) : SlR w (cutV v l xs.length) (xs.drop l) := by
  have := hr.cut hc h1 (Nat.le_refl _)
  rwa [List.take_of_length_le (by simp)] at this
theorem SlR.cutT {w : World} {v : Value} {xs : List Value} {h : Nat} (hr : SlR w v xs) (hc : CapOk v) (h1 : h ≤ xs.length) : SlR w (cutV v 0 h) (xs.take h) := by
  have := hr.cut hc (Nat.zero_le h) h1
  simpa using this
theorem SlR.cutDB {w : World} {v : Value} {l : List UInt8} {k : Nat} (h1 : SlR w v (bytesV l)) (h2 : CapOk v) (hk : k ≤ l.length) : SlR w (cutV v k (bytesV l).length) (bytesV (l.drop k)) := by
  have hl : (bytesV l).length = l.length := by simp [bytesV]
  have h3 := SlR.cutD (l := k) h1 h2 (by omega)
  have e : (bytesV l).drop k = bytesV (l.drop k) := by simp [bytesV]
  rwa [e] at h3
theorem SlR.cutB {w : World} {v : Value} {l : List UInt8} {i j : Nat} (h1 : SlR w v (bytesV l)) (h2 : CapOk v) (hi : i ≤ j) (hj : j ≤ l.length) : SlR w (cutV v i j) (bytesV ((l.drop i).take (j - i))) := by
  have hl : (bytesV l).length = l.length := by simp [bytesV]
  have h3 := SlR.cut (l := i) (h := j) h1 h2 hi (by omega)
  have e : ((bytesV l).drop i).take (j - i) = bytesV ((l.drop i).take (j - i)) := by simp [bytesV]
  rwa [e] at h3
theorem Src.cutT {P : Program} {w : World} {v : Value} {l : List UInt8} {k : Nat} (h1 : SlR w v (bytesV l)) (h2 : CapOk v) (hk : k ≤ l.length) : Src P w (cutV v 0 k) k 1 (bytesV (l.take k)) := by
  have hl : (bytesV l).length = l.length := by simp [bytesV]
  have h3 := SlR.cutT (h := k) h1 h2 (by omega)
  have e : (bytesV l).take k = bytesV (l.take k) := by simp [bytesV]
  rw [e] at h3
  have h4 := Src.slR (P := P) h3
  have hl2 : (bytesV (l.take k)).length = k := by simp [bytesV]; omega
  rwa [hl2] at h4
section
variable {P : Program} {N : Nat} {E : En} {Z : World} {L : List HP} {F : HP → List HP} {C : World → Prop} {Q : Exit → Act → World → Prop} {ops : Array Oper} {rest : List Oper}
variable {d : Option Tmp} {x y : Operand} {t ty xt : TypeId} {pos : String} {aft : Array Edge} {g : Option (Nat × Bool)} {v u : Value}
theorem Rd.cutR {e bytes : Nat} {zv : Value} {lo hi : Option Operand} {l h : Nat} {xs : List Value} {vl vh : Option Value} (ht : P.underlying ty = some (.slice e)) (ti : TI P e 1 bytes zv) (hx : evE E x = some v) (hr : ∀ w, C w → SlR w v xs ∧ CapOk v)
    (hl : (match lo with | none => vl = none ∧ l = 0 | some o => ∃ k, evE E o = some (.int k (l : Int)) ∧ vl = some (.int k (l : Int))))
    (hh : (match hi with | none => vh = none ∧ h = xs.length | some o => ∃ k, evE E o = some (.int k (h : Int)) ∧ vh = some (.int k (h : Int)))) (h1 : l ≤ h) (h2 : h ≤ xs.length) :
    Rd P N E C ⟨d, .slice ty x lo hi none, t, pos, aft, g⟩ (cutV v l h) := fun a w he hC => by
  obtain ⟨⟨ad, c, rfl, _⟩, a', n', c', ev, hn⟩ := hr w hC
  injection ev with e1 e2 e3
  subst e1; subst e2; subst e3
  obtain ⟨j, j2, j3, _, _⟩ := ti
  have e1 : lo.map a.eval = vl := by
    cases lo with
    | none => simp only at hl; rw [hl.1]; rfl
    | some o => obtain ⟨k, h3, h4⟩ := hl; rw [h4]; simp [he.eval h3]
  have e2 : hi.map a.eval = vh := by
    cases hi with
    | none => simp only at hh; rw [hh.1]; rfl
    | some o => obtain ⟨k, h3, h4⟩ := hh; rw [h4]; simp [he.eval h3]
  simp only [execOp, he.eval hx, e1, e2]
  have hcap : h ≤ c := by omega
  have h3 : (Instr.sliceBounds true xs.length c vl vh none).run P w = .ok (l, h, c) w := by
    cases lo <;> cases hi <;> simp only at hl hh
    · obtain ⟨rfl, rfl⟩ := hl; obtain ⟨rfl, rfl⟩ := hh
      simp [Instr.sliceBounds]
    · obtain ⟨rfl, rfl⟩ := hl; obtain ⟨k, _, rfl⟩ := hh
      simp [Instr.sliceBounds, Instr.sliceBound, asIntOf, hcap]
    · obtain ⟨k, _, rfl⟩ := hl; obtain ⟨rfl, rfl⟩ := hh
      simp [Instr.sliceBounds, Instr.sliceBound, asIntOf, h1]
    · obtain ⟨k, _, rfl⟩ := hl; obtain ⟨k', _, rfl⟩ := hh
      simp [Instr.sliceBounds, Instr.sliceBound, asIntOf, h1, hcap]
  simp [Instr.sliceAt, Instr.slice, run_underlying ht, h3, sizeOf, typeInfo, j2, j3, cutV]
/-- '[]byte(x)' of bytes just made: they are only read from now on. -/
theorem J.convBB {s b n c : Nat} {e : TypeId} {cs : List Value} {T : TypeId} {L' : List HP} (ht : P.underlying ty = some (.slice e)) (he' : P.underlying e = some (.int .u8)) (hx : evE E x = some (.slice (some ⟨b, 0, none⟩) n c)) [hb : RemP b L (.cells cs.toArray T (0, 0)) L'] (hl : cs.length = n)
    (hw : want ops E ⟨some s, .convert ty ty x, t, pos, aft, g⟩ = some true) (hd : dstOk N (some s) = true)
    (k : J N ((s, .slice (some ⟨b, 0, none⟩) n c) :: E) (Sto Z (ro (.slice (some ⟨b, 0, none⟩) n c) cs :: L')) (wpList P ops Q rest)) : J N E (Sto Z L) (wpList P ops Q (⟨some s, .convert ty ty x, t, pos, aft, g⟩ :: rest)) :=
  J.step (α := Unit) (fun _ => .slice (some ⟨b, 0, none⟩) n c) (fun _ => Sto Z (ro (.slice (some ⟨b, 0, none⟩) n c) cs :: L')) hw hd (fun a w he hC => by
    have h1 : St Z w (pts b (.cells cs.toArray T (0, 0)) :: L') := St.perm hC hb.perm
    have h2 := h1.block0
    refine ⟨(), w.freeze ⟨b, cs.length, none⟩ 1, ?_, ?_⟩
    · have hsh : w.shape? b = some (T, cs.length) := by simp [World.shape?, h2]
      simp only [execOp, he.eval hx]
      simp [convert, run_underlying ht, run_underlying he', markStringish, hsh]
    · have h3 : (w.freeze ⟨b, cs.length, none⟩ 1).heap[b]? = some (.cells cs.toArray T (cs.length, cs.length + 1)) := by
        unfold World.freeze
        rw [if_neg (by decide)]
        simp [Array.getElem?_modify, h2]
      have h4 : (w.freeze ⟨b, cs.length, none⟩ 1).os = w.os ∧ (w.freeze ⟨b, cs.length, none⟩ 1).tape = w.tape ∧ (w.freeze ⟨b, cs.length, none⟩ 1).output = w.output := by
        unfold World.freeze; split <;> exact ⟨rfl, rfl, rfl⟩
      refine (h1.set0 h4 h3 (fun q hq => ?_)).conv0 (fun h hh => .inr ⟨b, 0, c, cs, T, _, by rw [hl], by simp, hh⟩)
      unfold World.freeze
      split
      · rfl
      · simp only [Array.getElem?_modify]; rw [if_neg (by omega)]) (fun _ => k)
theorem Rd.minI {k k' : IntKind} {m n : Int} {at_ : Array TypeId} (hx : evE E x = some (.int k m)) (hy : evE E y = some (.int k' n)) : Rd P N E C ⟨d, .call ⟨.builtin .min, #[x, y], at_⟩, t, pos, aft, g⟩ (.int k (if n < m then n else m)) := fun a w he _ => by
  simp [execOp, resolve, invoke, builtin, he.eval hx, he.eval hy, run_min_int2]
theorem Rd.maxI {k k' : IntKind} {m n : Int} {at_ : Array TypeId} (hx : evE E x = some (.int k m)) (hy : evE E y = some (.int k' n)) : Rd P N E C ⟨d, .call ⟨.builtin .max, #[x, y], at_⟩, t, pos, aft, g⟩ (.int k (if m < n then n else m)) := fun a w he _ => by
  simp [execOp, resolve, invoke, builtin, he.eval hx, he.eval hy, run_max_int2]
end
end Go.Sb
