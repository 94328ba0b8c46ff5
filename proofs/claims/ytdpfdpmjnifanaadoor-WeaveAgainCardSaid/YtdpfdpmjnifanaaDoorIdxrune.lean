/- strings.IndexRune at a rune beyond ASCII, in a text of ASCII alone: it is not there. -/
import Derived.Test.YtdpfdpmjnifanaaDoorProg
import Derived.KernelRfl
import Derived.Test.YtdpfdpmjnifanaaDoorIface
import Derived.Test.YtdpfdpmjnifanaaDoorTitlePure
import Derived.Test.YtdpfdpmjnifanaaDoorShelf
namespace Go.Proofs.YtdpfdpmjnifanaaDoor.Idxrune
open Go Go.RowKit Go.Sb
set_option maxRecDepth 100000
set_option linter.unusedVariables false
set_option linter.unusedSimpArgs false
theorem mixed : Tryd.prog.follows .mixedOrders = true := by kernel_rfl
theorem can77 : Callable Tryd.prog 77 := ⟨Tryd.f77, Tryd.func77, by kernel_rfl, by kernel_rfl⟩
theorem can78 : Callable Tryd.prog 78 := ⟨Tryd.f78, Tryd.func78, by kernel_rfl, by kernel_rfl⟩

theorem asc_decode {s : ByteArray} (hs : ∀ c ∈ s.data.toList, c.toNat < 128) {pos : Nat} (h : pos < s.size) : ∃ c : UInt8, c.toNat < 128 ∧ Utf8.decode s pos = (c.toNat, 1) := by
  have hl : pos < s.data.toList.length := by simpa using h
  refine ⟨s.data.toList[pos], hs _ (List.getElem_mem hl), ?_⟩
  rw [← Lib.decodeL_drop, List.drop_eq_getElem_cons hl, Lib.decodeL_N]
  unfold Lib.decodeN
  rw [List.getD_cons_zero, if_pos (hs _ (List.getElem_mem hl))]
theorem indexByte_not {c : UInt8} : ∀ {l : List UInt8}, c ∉ l → Lib.indexByte l c = -1
  | [], _ => rfl
  | b :: l, h => by
    have hb : ¬ (b == c) = true := by intro e; exact h (by rw [beq_iff_eq.1 e]; simp)
    have hl : c ∉ l := fun e => h (by simp [e])
    rw [Lib.indexByte, if_neg hb, indexByte_not hl]; rfl
theorem IndexByte {Z w : World} {L : List HP} {s : ByteArray} {c : Int} (hst : St Z w L) : Calls Tryd.prog 77 #[.string s, .int .u8 c] w (Ret fun v w' => v = .int .i64 (Lib.indexByte s.data.toList c.toNat.toUInt8) ∧ St Z w' L) :=
  (Tryd.strings_IndexByte s c w).mono fun e w' ⟨h1, h2⟩ => ⟨_, h1, rfl, h2 ▸ hst⟩
theorem ValidRune {Z w : World} {L : List HP} {r : Int} (hst : St Z w L) : Calls Tryd.prog 78 #[.int .i32 r] w (Ret fun v w' => v = .bool (Lib.validRune r) ∧ St Z w' L) :=
  (Tryd.utf8_ValidRune r w).mono fun e w' ⟨h1, h2⟩ => ⟨_, h1, rfl, h2 ▸ hst⟩
theorem IndexRune_asc {Z w : World} {L : List HP} {s : ByteArray} {r : Int} (h0 : 0 ≤ r) (h1 : r < 128) (hst : St Z w L) : Calls Tryd.prog 53 #[.string s, .int .i32 r] w (Ret fun v w' => v = .int .i64 (Lib.indexByte s.data.toList r.toNat.toUInt8) ∧ St Z w' L) :=
  (Tryd.strings_IndexRune_ascii s r w h0 h1).mono fun e w' ⟨h1, h2⟩ => ⟨_, h1, rfl, h2 ▸ hst⟩

theorem IndexRune_far {Z w : World} {Lf : List HP} {s : ByteArray} {r : Nat} (hs : ∀ c ∈ s.data.toList, c.toNat < 128) (hz : s.size ≤ 1000000) (hr : 128 ≤ r) (hr2 : r ≤ 1114111) (hr3 : r < 55296 ∨ 57343 < r) (hst : St Z w Lf) : Calls Tryd.prog 53 #[.string s, .int .i32 (r : Int)] w (Ret fun v w' => v = .int .i64 (-1) ∧ St Z w' Lf) := by
  refine J.enter (N := 187) (l := [.string s, .int .i32 (r : Int)]) (C := Sto Z Lf) Tryd.func53 rfl Tryd.ntmps53 (by simp) (hst) ?_
  have hv : Lib.validRune (r : Int) = true := by simp only [Lib.validRune, decide_eq_true_eq]; omega
  have hv2 : Utf8.valid (r : Int) = true := by simp only [Utf8.valid, Bool.or_eq_true, Bool.and_eq_true, decide_eq_true_eq]; omega
  obtain ⟨he1, he2, he3⟩ := encode_facts (r : Int) hv2 (by omega)
  generalize hrs : Utf8.encode (r : Int) = rs at he1 he2 he3
  obtain ⟨last, hlast⟩ : ∃ last, rs.size = last + 1 := ⟨rs.size - 1, by omega⟩
  have hlt : last < rs.data.size := by show last < rs.size; omega
  have hbl : 128 ≤ rs.data[last].toNat := by
    have := he3 (by omega)
    simp only [hlast, Nat.add_sub_cancel] at this
    exact this
  generalize hcl : rs.data[last] = cl at hbl
  have hix : rs.data[last]? = some cl := by rw [← hcl]; exact Array.getElem?_eq_getElem hlt
  refine J.seq ?_
  refine J.region ?_
  refine J.rd (Rd.assign rfl) rfl rfl ?_
  refine J.done ?_
  refine J.thenN ?_
  refine J.block ?_
  refine J.seq ?_
  refine J.region ?_
  refine J.rd (Rd.move rfl) rfl rfl ?_
  refine J.rd (Rd.bin' rfl rfl rfl (fun _ => rfl)) rfl rfl ?_
  refine J.rd (Rd.move rfl) rfl rfl ?_
  refine J.bcase (fun hb1 => ?_) (fun hb1 => ?_)
  · skip
    refine J.rd (Rd.move rfl) rfl rfl ?_
    refine J.rd (Rd.bin' rfl rfl rfl (fun _ => rfl)) rfl rfl ?_
    refine J.rd (Rd.pickT rfl rfl) rfl rfl ?_
    refine J.rd (Rd.assign rfl) rfl rfl ?_
    refine J.done ?_
    refine J.thenN ?_
    refine J.cond rfl (fun hb2 => ?_) (fun hb2 => ?_)
    · skip
      simp at hb1 hb2; omega
    · skip
      refine J.seq ?_
      refine J.region ?_
      refine J.rd (Rd.move rfl) rfl rfl ?_
      refine J.rd (Rd.bin' rfl rfl rfl (fun _ => rfl)) rfl rfl ?_
      refine J.rd (Rd.assign rfl) rfl rfl ?_
      refine J.done ?_
      refine J.thenN ?_
      refine J.cond rfl (fun hb3 => ?_) (fun hb3 => ?_)
      · skip
        refine J.seq ?_
        refine J.seq ?_
        refine J.region ?_
        refine J.rd (Rd.move rfl) rfl rfl ?_
        refine J.rangeStr Tryd.underlying9 rfl rfl rfl (fun b175 => ?_)
        refine J.done ?_
        refine J.thenN ?_
        refine J.block ?_
        refine J.loop (σ := Nat) (fun p => s.size - p) (fun _ => [(0, .string s), (175, .pointer (some ⟨b175, 0, none⟩))]) (fun p w => St Z w (pts b175 (.stringIter s p) :: Lf)) 0 (.cons rfl (.cons rfl .nil)) (fun w hw => hw) ?_
        intro pos
        refine J.seq ?_
        refine J.region ?_
        by_cases hlt4 : pos < s.size
        · refine J.nextT rfl hlt4 rfl rfl ?_
          obtain ⟨c, hc1, hc2⟩ := asc_decode hs hlt4
          rw [hc2]
          refine J.rd (Rd.extractL rfl) rfl rfl ?_
          refine J.done ?_
          refine J.thenN ?_
          refine J.seq ?_
          refine J.condT rfl ?_
          refine J.skip ?_
          refine J.thenN ?_
          refine J.block ?_
          refine J.seq ?_
          refine J.region ?_
          refine J.rd (Rd.extractL rfl) rfl rfl ?_
          refine J.rd (Rd.extractL rfl) rfl rfl ?_
          refine J.rd (Rd.assign rfl) rfl rfl ?_
          refine J.rd (Rd.assign rfl) rfl rfl ?_
          refine J.done ?_
          refine J.thenN ?_
          refine J.seq ?_
          refine J.region ?_
          refine J.rd (Rd.move rfl) rfl rfl ?_
          refine J.rd (Rd.bin' rfl rfl rfl (fun _ => rfl)) rfl rfl ?_
          refine J.done ?_
          refine J.thenN ?_
          refine J.cond rfl (fun hb5 => ?_) (fun hb5 => ?_)
          · skip
            simp at hb5; omega
          · skip
            refine J.skip ?_
            refine J.blockN ?_
            refine J.thenN ?_
            refine J.again pos (pos + 1) (by show s.size - (pos + 1) < s.size - pos; omega) (.cons rfl (.cons rfl .nil)) (fun w hw => hw)
        · refine J.nextF rfl hlt4 rfl rfl ?_
          refine J.rd (Rd.extractL rfl) rfl rfl ?_
          refine J.done ?_
          refine J.thenN ?_
          refine J.seq ?_
          refine J.condF rfl ?_
          refine J.exit ?_
          refine J.thenE ?_
          refine J.thenE ?_
          refine J.blockE ?_
          refine J.thenN ?_
          refine J.seq ?_
          refine J.region ?_
          refine J.rd (Rd.assign rfl) rfl rfl ?_
          refine J.done ?_
          refine J.thenN ?_
          refine J.ret ?_
          refine J.blockR ?_
          refine J.leave1 (.inr rfl) rfl rfl (fun w' hC => ?_)
          exact ⟨rfl, St.sub hC⟩
      · skip
        refine J.seq ?_
        refine J.region ?_
        refine J.rd (Rd.move rfl) rfl rfl ?_
        refine J.call can78 rfl (fun w hC => ValidRune hC) rfl rfl (fun v185 => ?_)
        refine J.andC fun hv185 => ?_
        subst hv185
        refine J.rd (Rd.un rfl (fun _ => rfl)) rfl rfl ?_
        refine J.rd (Rd.assign rfl) rfl rfl ?_
        refine J.done ?_
        refine J.thenN ?_
        refine J.cond rfl (fun hb6 => ?_) (fun hb6 => ?_)
        · skip
          simp [hv] at hb6
        · skip
          refine J.scope ?_
          refine J.seq ?_
          refine J.region ?_
          refine J.rd (Rd.move rfl) rfl rfl ?_
          refine J.rd (Rd.convIS (by rw [Tryd.underlying21]; rfl) Tryd.underlying9 rfl) rfl rfl ?_
          rw [hrs]
          refine J.rd (Rd.assign rfl) rfl rfl ?_
          refine J.done ?_
          refine J.thenN ?_
          refine J.seq ?_
          refine J.region ?_
          refine J.rd (Rd.move rfl) rfl rfl ?_
          refine J.rd (Rd.lenStr rfl rfl Tryd.underlying9) rfl rfl ?_
          refine J.rd (Rd.bin' rfl rfl rfl (fun _ => rfl)) rfl rfl ?_
          first | refine J.val (wI64 ⟨by omega, by omega⟩) ?_ | skip
          refine J.val (show _ = Value.int .i64 ((last : Nat) : Int) from congrArg (Value.int .i64) (by have := hlast; omega)) ?_
          refine J.rd (Rd.assign rfl) rfl rfl ?_
          refine J.done ?_
          refine J.thenN ?_
          refine J.seq ?_
          refine J.region ?_
          refine J.rd (Rd.move rfl) rfl rfl ?_
          refine J.rd (Rd.assign rfl) rfl rfl ?_
          refine J.done ?_
          refine J.thenN ?_
          refine J.seq ?_
          refine J.region ?_
          refine J.rd (Rd.assign rfl) rfl rfl ?_
          refine J.done ?_
          refine J.thenN ?_
          refine J.seq ?_
          refine J.block ?_
          refine J.loop (σ := Unit) (fun _ => 0) (fun _ => [(0, .string s), (7, .string rs), (8, .int .i64 (last : Nat)), (9, .int .i64 (last : Nat))]) (fun _ => Sto Z Lf) () (.cons rfl (.cons rfl (.cons rfl (.cons rfl .nil)))) (fun w hw => hw) ?_
          intro _
          refine J.seq ?_
          refine J.seq ?_
          refine J.region ?_
          refine J.rd (Rd.move rfl) rfl rfl ?_
          refine J.rd (Rd.move rfl) rfl rfl ?_
          refine J.rd (Rd.lenStr rfl rfl Tryd.underlying9) rfl rfl ?_
          refine J.rd (Rd.bin' rfl rfl rfl (fun _ => rfl)) rfl rfl ?_
          refine J.done ?_
          refine J.thenN ?_
          refine J.cond rfl (fun hb7 => ?_) (fun hb7 => ?_)
          · skip
            refine J.skip ?_
            refine J.thenN ?_
            refine J.block ?_
            refine J.scope ?_
            refine J.seq ?_
            refine J.seq ?_
            have hll : last < s.size := by simp at hb7; omega
            obtain ⟨cs, hcs⟩ : ∃ cs, s.data[last]? = some cs := ⟨_, Array.getElem?_eq_getElem hll⟩
            have hcsl : cs.toNat < 128 := hs cs (List.mem_of_getElem? (by rw [Array.getElem?_toList]; exact hcs))
            refine J.draw mixed (by kernel_rfl) (fun w n h => St.drawn h n) ?_
            refine JQ.rd (Rd.move rfl) rfl rfl ?_
            refine JQ.rd (Rd.move rfl) rfl rfl ?_
            refine JQ.rd (Rd.indexStr (i := last) rfl rfl Tryd.underlying9 (hcs)) rfl rfl ?_
            refine JQ.rd (Rd.move rfl) rfl rfl ?_
            refine JQ.rd (Rd.move rfl) rfl rfl ?_
            refine JQ.rd (Rd.indexStr (i := last) rfl rfl Tryd.underlying9 (hix)) rfl rfl ?_
            refine JQ.rd (Rd.bin' rfl rfl rfl (fun _ => rfl)) rfl rfl ?_
            refine JQ.done ?_
            refine J.thenN ?_
            refine J.cond rfl (fun hb8 => ?_) (fun hb8 => ?_)
            · skip
              refine J.seq ?_
              have hib : Lib.indexByte (s.extract (last + 1) s.size).data.toList ((cl.toNat : Int).toNat.toUInt8) = -1 := indexByte_not (fun hm => by
                have e : ((cl.toNat : Int).toNat.toUInt8) = cl := by simp
                rw [e, ByteArray.data_extract, Array.toList_extract] at hm
                have := hs cl (List.mem_of_mem_drop (List.mem_of_mem_take hm))
                omega)
              refine J.mix [(true, 0), (true, 1), (true, 2), (true, 3), (true, 4), (true, 5), (true, 6), (false, 7), (true, 8)] mixed (by kernel_rfl) (fun w n h => St.drawn h n) (fun _ hw => hw) ?_
              refine JM.rd rfl (Rd.move rfl) rfl rfl ?_
              refine JM.rd rfl (Rd.move rfl) rfl rfl ?_
              refine JM.rd rfl (Rd.bin' rfl rfl rfl (fun _ => rfl)) rfl rfl ?_
              first | refine JM.val (wI64 ⟨by omega, by omega⟩) ?_ | skip
              refine JM.rd rfl (Rd.sliceStr (l := last + 1) (h := s.size) Tryd.underlying9 rfl ⟨_, rfl, rfl⟩ ⟨rfl, rfl⟩ (by omega) (by omega)) rfl rfl ?_
              refine JM.rd rfl (Rd.move rfl) rfl rfl ?_
              refine JM.rd rfl (Rd.move rfl) rfl rfl ?_
              refine JM.rd rfl (Rd.indexStr (i := last) rfl rfl Tryd.underlying9 (hix)) rfl rfl ?_
              refine JM.eff rfl ?_
              refine J.call can77 rfl (fun w hC => IndexByte hC) rfl rfl (fun v41 => ?_)
              refine J.andC fun hv41 => ?_
              subst hv41
              rw [hib]
              refine JM.next (fun _ hw => hw) (fun _ hw => hw) ?_
              refine JM.rd rfl (Rd.assign rfl) rfl rfl ?_
              refine JM.done ?_
              refine J.thenN ?_
              refine J.seq ?_
              refine J.seq ?_
              refine J.region ?_
              refine J.rd (Rd.move rfl) rfl rfl ?_
              refine J.rd (Rd.bin' rfl rfl rfl (fun _ => rfl)) rfl rfl ?_
              refine J.done ?_
              refine J.thenN ?_
              refine J.cond rfl (fun hb9 => ?_) (fun hb9 => ?_)
              · skip
                refine J.seq ?_
                refine J.region ?_
                refine J.rd (Rd.assign rfl) rfl rfl ?_
                refine J.done ?_
                refine J.thenN ?_
                refine J.ret ?_
                refine J.thenR ?_
                refine J.thenR ?_
                refine J.scopeR ?_
                refine J.blockR ?_
                refine J.thenR ?_
                refine J.blockR ?_
                refine J.thenR ?_
                refine J.scopeR ?_
                refine J.blockR ?_
                refine J.leave1 (.inr rfl) rfl rfl (fun w' hC => ?_)
                exact ⟨rfl, St.sub hC⟩
              · skip
                simp at hb9
            · skip
              exfalso; have h2 : (cs.toNat : Int) = cl.toNat := (by simpa using hb8); omega
          · skip
            refine J.exit ?_
            refine J.thenE ?_
            refine J.thenE ?_
            refine J.blockE ?_
            refine J.thenN ?_
            refine J.seq ?_
            refine J.seq ?_
            refine J.region ?_
            refine J.rd (Rd.assign rfl) rfl rfl ?_
            refine J.done ?_
            refine J.thenN ?_
            refine J.ret ?_
            refine J.thenR ?_
            refine J.scopeR ?_
            refine J.blockR ?_
            refine J.leave1 (.inr rfl) rfl rfl (fun w' hC => ?_)
            exact ⟨rfl, St.sub hC⟩
  · skip
    simp at hb1
end Go.Proofs.YtdpfdpmjnifanaaDoor.Idxrune
