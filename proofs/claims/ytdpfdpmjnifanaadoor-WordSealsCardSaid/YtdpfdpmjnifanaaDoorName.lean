/- word.plain, word.Name. -/
import Derived.Test.YtdpfdpmjnifanaaDoorProg
import Derived.KernelRfl
import Derived.Test.YtdpfdpmjnifanaaDoorStr
import Derived.Test.YtdpfdpmjnifanaaDoorIntBits
import Derived.Test.YtdpfdpmjnifanaaDoorTitlePure
namespace Go.Proofs.YtdpfdpmjnifanaaDoor.Name
open Go Go.RowKit Go.Sb
set_option maxRecDepth 100000
set_option linter.unusedVariables false
set_option linter.unusedSimpArgs false
theorem mixed : Tryd.prog.follows .mixedOrders = true := by kernel_rfl
theorem can71 : Callable Tryd.prog 71 := ⟨Tryd.f71, Tryd.func71, by kernel_rfl, by kernel_rfl⟩

def plainB (c : Int) : Bool := decide (97 ≤ c ∧ c ≤ 122 ∨ 65 ≤ c ∧ c ≤ 90 ∨ 48 ≤ c ∧ c ≤ 57)
/-- May a byte stand in a header's name? -/
def nameC (c : UInt8) : Bool := plainB c.toNat || c == 45
def nameF (l : List UInt8) : Bool := decide (l ≠ []) && decide (l.length ≤ 40) && l.all nameC
theorem rune_byte {s : ByteArray} {pos c wd : Nat} (h : pos < s.size) (hd : Utf8.decode s pos = (c, wd)) : ∃ b : UInt8, s.data.toList[pos]? = some b ∧ (b.toNat < 128 → c = b.toNat ∧ wd = 1) ∧ (128 ≤ b.toNat → 128 ≤ c) := by
  have hl : pos < s.data.toList.length := by simpa using h
  have hdl := Lib.decodeL_drop s pos
  rw [hd] at hdl
  have hN := Lib.decodeL_N (s.data.toList.drop pos)
  have h0 : (s.data.toList.drop pos).getD 0 0 = s.data.toList[pos] := by
    rw [List.getD_eq_getElem?_getD, List.getElem?_drop, Nat.add_zero, List.getElem?_eq_getElem hl]; rfl
  rw [h0, hdl] at hN
  refine ⟨s.data.toList[pos], List.getElem?_eq_getElem hl, fun hb => ?_, fun hb => ?_⟩
  · unfold Lib.decodeN at hN
    rw [if_pos hb] at hN
    exact ⟨(Prod.mk.inj hN).1, (Prod.mk.inj hN).2⟩
  · have h1 := congrArg Prod.fst hN
    simp only at h1
    rw [h1]
    unfold Lib.decodeN
    rw [if_neg (by omega)]
    repeat' split
    all_goals (simp only; omega)

theorem plain_calls {Z w : World} {Lf : List HP} (r : Int) (hst : St Z w Lf) : Calls Tryd.prog 71 #[.int .i32 r] w (Ret fun v w' => v = .bool (plainB r) ∧ St Z w' Lf) := by
  refine J.enter (N := 25) (l := [.int .i32 r]) (C := Sto Z Lf) Tryd.func71 rfl Tryd.ntmps71 (by simp) (hst) ?_
  refine J.seq ?_
  refine J.region ?_
  refine J.rd (Rd.assign rfl) rfl rfl ?_
  refine J.done ?_
  refine J.thenN ?_
  refine J.seq ?_
  refine J.region ?_
  refine J.rd (Rd.move rfl) rfl rfl ?_
  refine J.rd (Rd.bin' rfl rfl rfl (fun _ => rfl)) rfl rfl ?_
  refine J.rd (Rd.move rfl) rfl rfl ?_
  refine J.bcase (fun hb1 => ?_) (fun hb1 => ?_)
  · skip
    refine J.rd (Rd.move rfl) rfl rfl ?_
    refine J.rd (Rd.bin' rfl rfl rfl (fun _ => rfl)) rfl rfl ?_
    refine J.rd (Rd.pickT rfl rfl) rfl rfl ?_
    refine J.rd (Rd.move rfl) rfl rfl ?_
    refine J.bcase (fun hb2 => ?_) (fun hb2 => ?_)
    · skip
      refine J.pass rfl rfl ?_
      refine J.pass rfl rfl ?_
      refine J.pass rfl rfl ?_
      refine J.pass rfl rfl ?_
      refine J.pass rfl rfl ?_
      refine J.pass rfl rfl ?_
      refine J.rd (Rd.pickT rfl rfl) rfl rfl ?_
      refine J.rd (Rd.move rfl) rfl rfl ?_
      refine J.pass rfl rfl ?_
      refine J.pass rfl rfl ?_
      refine J.pass rfl rfl ?_
      refine J.pass rfl rfl ?_
      refine J.pass rfl rfl ?_
      refine J.pass rfl rfl ?_
      refine J.rd (Rd.pickT rfl rfl) rfl rfl ?_
      refine J.rd (Rd.assign rfl) rfl rfl ?_
      refine J.done ?_
      refine J.thenN ?_
      refine J.ret ?_
      refine J.leave1 (.inr rfl) rfl rfl (fun w' hC => ?_)
      refine ⟨congrArg Value.bool ?_, hC⟩
      clear hC hst
      rw [plainB, Bool.eq_iff_iff]
      simp only [decide_eq_true_eq, decide_eq_false_iff_not] at *
      first | omega | (simp; omega)
    · skip
      refine J.rd (Rd.move rfl) rfl rfl ?_
      refine J.rd (Rd.bin' rfl rfl rfl (fun _ => rfl)) rfl rfl ?_
      refine J.rd (Rd.move rfl) rfl rfl ?_
      refine J.bcase (fun hb3 => ?_) (fun hb3 => ?_)
      · skip
        refine J.rd (Rd.move rfl) rfl rfl ?_
        refine J.rd (Rd.bin' rfl rfl rfl (fun _ => rfl)) rfl rfl ?_
        refine J.rd (Rd.pickT rfl rfl) rfl rfl ?_
        refine J.rd (Rd.pickF rfl rfl) rfl rfl ?_
        refine J.rd (Rd.move rfl) rfl rfl ?_
        refine J.bcase (fun hb4 => ?_) (fun hb4 => ?_)
        · skip
          refine J.pass rfl rfl ?_
          refine J.pass rfl rfl ?_
          refine J.pass rfl rfl ?_
          refine J.pass rfl rfl ?_
          refine J.pass rfl rfl ?_
          refine J.pass rfl rfl ?_
          refine J.rd (Rd.pickT rfl rfl) rfl rfl ?_
          refine J.rd (Rd.assign rfl) rfl rfl ?_
          refine J.done ?_
          refine J.thenN ?_
          refine J.ret ?_
          refine J.leave1 (.inr rfl) rfl rfl (fun w' hC => ?_)
          refine ⟨congrArg Value.bool ?_, hC⟩
          clear hC hst
          rw [plainB, Bool.eq_iff_iff]
          simp only [decide_eq_true_eq, decide_eq_false_iff_not] at *
          first | omega | (simp; omega)
        · skip
          refine J.rd (Rd.move rfl) rfl rfl ?_
          refine J.rd (Rd.bin' rfl rfl rfl (fun _ => rfl)) rfl rfl ?_
          refine J.rd (Rd.move rfl) rfl rfl ?_
          refine J.bcase (fun hb5 => ?_) (fun hb5 => ?_)
          · skip
            refine J.rd (Rd.move rfl) rfl rfl ?_
            refine J.rd (Rd.bin' rfl rfl rfl (fun _ => rfl)) rfl rfl ?_
            refine J.rd (Rd.pickT rfl rfl) rfl rfl ?_
            refine J.rd (Rd.pickF rfl rfl) rfl rfl ?_
            refine J.rd (Rd.assign rfl) rfl rfl ?_
            refine J.done ?_
            refine J.thenN ?_
            refine J.ret ?_
            refine J.leave1 (.inr rfl) rfl rfl (fun w' hC => ?_)
            refine ⟨congrArg Value.bool ?_, hC⟩
            clear hC hst
            rw [plainB, Bool.eq_iff_iff]
            simp only [decide_eq_true_eq, decide_eq_false_iff_not] at *
            first | omega | (simp; omega)
          · skip
            refine J.pass rfl rfl ?_
            refine J.pass rfl rfl ?_
            refine J.rd (Rd.pickF rfl rfl) rfl rfl ?_
            refine J.rd (Rd.pickF rfl rfl) rfl rfl ?_
            refine J.rd (Rd.assign rfl) rfl rfl ?_
            refine J.done ?_
            refine J.thenN ?_
            refine J.ret ?_
            refine J.leave1 (.inr rfl) rfl rfl (fun w' hC => ?_)
            refine ⟨congrArg Value.bool ?_, hC⟩
            clear hC hst
            rw [plainB, Bool.eq_iff_iff]
            simp only [decide_eq_true_eq, decide_eq_false_iff_not] at *
            first | omega | (simp; omega)
      · skip
        refine J.pass rfl rfl ?_
        refine J.pass rfl rfl ?_
        refine J.rd (Rd.pickF rfl rfl) rfl rfl ?_
        refine J.rd (Rd.pickF rfl rfl) rfl rfl ?_
        refine J.rd (Rd.move rfl) rfl rfl ?_
        refine J.rd (Rd.move rfl) rfl rfl ?_
        refine J.rd (Rd.bin' rfl rfl rfl (fun _ => rfl)) rfl rfl ?_
        refine J.rd (Rd.move rfl) rfl rfl ?_
        refine J.bcase (fun hb6 => ?_) (fun hb6 => ?_)
        · skip
          refine J.rd (Rd.move rfl) rfl rfl ?_
          refine J.rd (Rd.bin' rfl rfl rfl (fun _ => rfl)) rfl rfl ?_
          refine J.rd (Rd.pickT rfl rfl) rfl rfl ?_
          refine J.rd (Rd.pickF rfl rfl) rfl rfl ?_
          refine J.rd (Rd.assign rfl) rfl rfl ?_
          refine J.done ?_
          refine J.thenN ?_
          refine J.ret ?_
          refine J.leave1 (.inr rfl) rfl rfl (fun w' hC => ?_)
          refine ⟨congrArg Value.bool ?_, hC⟩
          clear hC hst
          rw [plainB, Bool.eq_iff_iff]
          simp only [decide_eq_true_eq, decide_eq_false_iff_not] at *
          first | omega | (simp; omega)
        · skip
          refine J.pass rfl rfl ?_
          refine J.pass rfl rfl ?_
          refine J.rd (Rd.pickF rfl rfl) rfl rfl ?_
          refine J.rd (Rd.pickF rfl rfl) rfl rfl ?_
          refine J.rd (Rd.assign rfl) rfl rfl ?_
          refine J.done ?_
          refine J.thenN ?_
          refine J.ret ?_
          refine J.leave1 (.inr rfl) rfl rfl (fun w' hC => ?_)
          refine ⟨congrArg Value.bool ?_, hC⟩
          clear hC hst
          rw [plainB, Bool.eq_iff_iff]
          simp only [decide_eq_true_eq, decide_eq_false_iff_not] at *
          first | omega | (simp; omega)
  · skip
    refine J.pass rfl rfl ?_
    refine J.pass rfl rfl ?_
    refine J.rd (Rd.pickF rfl rfl) rfl rfl ?_
    refine J.rd (Rd.move rfl) rfl rfl ?_
    refine J.rd (Rd.move rfl) rfl rfl ?_
    refine J.rd (Rd.bin' rfl rfl rfl (fun _ => rfl)) rfl rfl ?_
    refine J.rd (Rd.move rfl) rfl rfl ?_
    refine J.bcase (fun hb7 => ?_) (fun hb7 => ?_)
    · skip
      refine J.rd (Rd.move rfl) rfl rfl ?_
      refine J.rd (Rd.bin' rfl rfl rfl (fun _ => rfl)) rfl rfl ?_
      refine J.rd (Rd.pickT rfl rfl) rfl rfl ?_
      refine J.rd (Rd.pickF rfl rfl) rfl rfl ?_
      refine J.rd (Rd.move rfl) rfl rfl ?_
      refine J.bcase (fun hb8 => ?_) (fun hb8 => ?_)
      · skip
        refine J.pass rfl rfl ?_
        refine J.pass rfl rfl ?_
        refine J.pass rfl rfl ?_
        refine J.pass rfl rfl ?_
        refine J.pass rfl rfl ?_
        refine J.pass rfl rfl ?_
        refine J.rd (Rd.pickT rfl rfl) rfl rfl ?_
        refine J.rd (Rd.assign rfl) rfl rfl ?_
        refine J.done ?_
        refine J.thenN ?_
        refine J.ret ?_
        refine J.leave1 (.inr rfl) rfl rfl (fun w' hC => ?_)
        refine ⟨congrArg Value.bool ?_, hC⟩
        clear hC hst
        rw [plainB, Bool.eq_iff_iff]
        simp only [decide_eq_true_eq, decide_eq_false_iff_not] at *
        first | omega | (simp; omega)
      · skip
        refine J.rd (Rd.move rfl) rfl rfl ?_
        refine J.rd (Rd.bin' rfl rfl rfl (fun _ => rfl)) rfl rfl ?_
        refine J.rd (Rd.move rfl) rfl rfl ?_
        refine J.bcase (fun hb9 => ?_) (fun hb9 => ?_)
        · skip
          refine J.rd (Rd.move rfl) rfl rfl ?_
          refine J.rd (Rd.bin' rfl rfl rfl (fun _ => rfl)) rfl rfl ?_
          refine J.rd (Rd.pickT rfl rfl) rfl rfl ?_
          refine J.rd (Rd.pickF rfl rfl) rfl rfl ?_
          refine J.rd (Rd.assign rfl) rfl rfl ?_
          refine J.done ?_
          refine J.thenN ?_
          refine J.ret ?_
          refine J.leave1 (.inr rfl) rfl rfl (fun w' hC => ?_)
          refine ⟨congrArg Value.bool ?_, hC⟩
          clear hC hst
          rw [plainB, Bool.eq_iff_iff]
          simp only [decide_eq_true_eq, decide_eq_false_iff_not] at *
          first | omega | (simp; omega)
        · skip
          refine J.pass rfl rfl ?_
          refine J.pass rfl rfl ?_
          refine J.rd (Rd.pickF rfl rfl) rfl rfl ?_
          refine J.rd (Rd.pickF rfl rfl) rfl rfl ?_
          refine J.rd (Rd.assign rfl) rfl rfl ?_
          refine J.done ?_
          refine J.thenN ?_
          refine J.ret ?_
          refine J.leave1 (.inr rfl) rfl rfl (fun w' hC => ?_)
          refine ⟨congrArg Value.bool ?_, hC⟩
          clear hC hst
          rw [plainB, Bool.eq_iff_iff]
          simp only [decide_eq_true_eq, decide_eq_false_iff_not] at *
          first | omega | (simp; omega)
    · skip
      refine J.pass rfl rfl ?_
      refine J.pass rfl rfl ?_
      refine J.rd (Rd.pickF rfl rfl) rfl rfl ?_
      refine J.rd (Rd.pickF rfl rfl) rfl rfl ?_
      refine J.rd (Rd.move rfl) rfl rfl ?_
      refine J.rd (Rd.move rfl) rfl rfl ?_
      refine J.rd (Rd.bin' rfl rfl rfl (fun _ => rfl)) rfl rfl ?_
      refine J.rd (Rd.move rfl) rfl rfl ?_
      refine J.bcase (fun hb10 => ?_) (fun hb10 => ?_)
      · skip
        refine J.rd (Rd.move rfl) rfl rfl ?_
        refine J.rd (Rd.bin' rfl rfl rfl (fun _ => rfl)) rfl rfl ?_
        refine J.rd (Rd.pickT rfl rfl) rfl rfl ?_
        refine J.rd (Rd.pickF rfl rfl) rfl rfl ?_
        refine J.rd (Rd.assign rfl) rfl rfl ?_
        refine J.done ?_
        refine J.thenN ?_
        refine J.ret ?_
        refine J.leave1 (.inr rfl) rfl rfl (fun w' hC => ?_)
        refine ⟨congrArg Value.bool ?_, hC⟩
        clear hC hst
        rw [plainB, Bool.eq_iff_iff]
        simp only [decide_eq_true_eq, decide_eq_false_iff_not] at *
        first | omega | (simp; omega)
      · skip
        refine J.pass rfl rfl ?_
        refine J.pass rfl rfl ?_
        refine J.rd (Rd.pickF rfl rfl) rfl rfl ?_
        refine J.rd (Rd.pickF rfl rfl) rfl rfl ?_
        refine J.rd (Rd.assign rfl) rfl rfl ?_
        refine J.done ?_
        refine J.thenN ?_
        refine J.ret ?_
        refine J.leave1 (.inr rfl) rfl rfl (fun w' hC => ?_)
        refine ⟨congrArg Value.bool ?_, hC⟩
        clear hC hst
        rw [plainB, Bool.eq_iff_iff]
        simp only [decide_eq_true_eq, decide_eq_false_iff_not] at *
        first | omega | (simp; omega)

theorem Name_calls {Z w : World} {Lf : List HP} (s : ByteArray) (hst : St Z w Lf) : Calls Tryd.prog 48 #[.string s] w (Ret fun v w' => v = .bool (nameF s.data.toList) ∧ St Z w' Lf) := by
  refine J.enter (N := 24) (l := [.string s]) (C := Sto Z Lf) Tryd.func48 rfl Tryd.ntmps48 (by simp) (hst) ?_
  refine J.seq ?_
  refine J.region ?_
  refine J.rd (Rd.assign rfl) rfl rfl ?_
  refine J.done ?_
  refine J.thenN ?_
  refine J.seq ?_
  refine J.seq ?_
  refine J.region ?_
  refine J.rd (Rd.move rfl) rfl rfl ?_
  refine J.rangeStr Tryd.underlying9 rfl rfl rfl (fun b6 => ?_)
  refine J.done ?_
  refine J.thenN ?_
  refine J.block ?_
  refine J.loop (σ := Nat) (fun p => s.size - p) (fun _ => [(0, .string s), (6, .pointer (some ⟨b6, 0, none⟩))]) (fun p w => (p ≤ s.size ∧ (s.data.toList.take p).all nameC = true) ∧ St Z w (pts b6 (.stringIter s p) :: Lf)) 0 (.cons rfl (.cons rfl .nil)) (fun w hw => ⟨⟨Nat.zero_le _, rfl⟩, hw⟩) ?_
  intro pos
  refine J.andC fun hq => ?_
  obtain ⟨hq1, hq2⟩ := hq
  have hsz : s.data.toList.length = s.size := by simp
  refine J.seq ?_
  refine J.region ?_
  by_cases hlt1 : pos < s.size
  · refine J.nextT rfl hlt1 rfl rfl ?_
    obtain ⟨c, wd, hdec⟩ : ∃ c wd, Utf8.decode s pos = (c, wd) := ⟨_, _, rfl⟩
    obtain ⟨b, hb, hlo, hhi⟩ := rune_byte hlt1 hdec
    simp only [hdec]
    refine J.rd (Rd.extractL rfl) rfl rfl ?_
    refine J.done ?_
    refine J.thenN ?_
    refine J.seq ?_
    refine J.condT rfl ?_
    refine J.skip ?_
    refine J.thenN ?_
    refine J.block ?_
    refine J.seq ?_
    refine J.region ?_
    refine J.rd (Rd.extractL rfl) rfl rfl ?_
    refine J.rd (Rd.assign rfl) rfl rfl ?_
    refine J.done ?_
    refine J.thenN ?_
    refine J.seq ?_
    refine J.region ?_
    refine J.rd (Rd.move rfl) rfl rfl ?_
    refine J.call can71 rfl (fun w hC => plain_calls _ hC) rfl rfl (fun v11 => ?_)
    refine J.andC fun hv11 => ?_
    subst hv11
    refine J.rd (Rd.un rfl (fun _ => rfl)) rfl rfl ?_
    refine J.rd (Rd.move rfl) rfl rfl ?_
    refine J.bcase (fun hb2 => ?_) (fun hb2 => ?_)
    · skip
      refine J.rd (Rd.move rfl) rfl rfl ?_
      refine J.rd (Rd.bin' rfl rfl rfl (fun _ => rfl)) rfl rfl ?_
      refine J.rd (Rd.pickT rfl rfl) rfl rfl ?_
      refine J.done ?_
      refine J.thenN ?_
      refine J.cond rfl (fun hb3 => ?_) (fun hb3 => ?_)
      · skip
        refine J.seq ?_
        refine J.region ?_
        refine J.rd (Rd.assign rfl) rfl rfl ?_
        refine J.done ?_
        refine J.thenN ?_
        refine J.ret ?_
        refine J.blockR ?_
        refine J.thenR ?_
        refine J.blockR ?_
        refine J.thenR ?_
        refine J.leave1 (.inr rfl) rfl rfl (fun w' hC => ?_)
        refine ⟨congrArg Value.bool (Eq.symm ?_), St.sub hC⟩
        have hbn : nameC b = false := by
          by_cases h : b.toNat < 128
          · rw [(hlo h).1] at hb2 hb3
            rw [nameC]
            simp only [Bool.not_eq_true', bne_iff_ne, ne_eq] at hb2 hb3
            rw [hb2, Bool.false_or, beq_eq_false_iff_ne]
            intro e; rw [e] at hb3; exact hb3 rfl
          · rw [nameC, plainB]
            have : ¬ b = 45 := by intro e; rw [e] at h; exact h (by decide)
            simp only [beq_iff_eq, this, Bool.or_eq_false_iff, decide_eq_false_iff_not, beq_eq_false_iff_ne, ne_eq, not_false_eq_true, and_true]
            omega
        have : s.data.toList.all nameC = false := by
          rw [List.all_eq_false]
          exact ⟨b, List.mem_of_getElem? hb, by rw [hbn]; decide⟩
        rw [nameF, this, Bool.and_false]
      · skip
        refine J.skip ?_
        refine J.blockN ?_
        refine J.thenN ?_
        have hbn : b.toNat < 128 := by
          by_cases h : b.toNat < 128
          · exact h
          · exfalso
            have h2 := hhi (by omega)
            simp only [plainB, Bool.not_eq_true', Bool.not_eq_false', decide_eq_true_eq, decide_eq_false_iff_not, bne_eq_false_iff_eq] at *
            omega
        obtain ⟨rfl, rfl⟩ := hlo hbn
        have hnc : nameC b = true := by
          rw [nameC]
          first
          | (have h3 : b = 45 := (u8_eq (d := 45)).1 (by simpa using hb3)
             rw [h3]; rfl)
          | (rw [show plainB b.toNat = true by simpa using hb2]; rfl)
        refine J.again pos (pos + 1) (by show s.size - (pos + 1) < s.size - pos; omega) (.cons rfl (.cons rfl .nil)) (fun w hw => ⟨⟨by omega, ?_⟩, hw⟩)
        rw [take_succ_of hb, List.all_append, hq2]
        simp [hnc] -- c ≠ 45
    · skip
      refine J.pass rfl rfl ?_
      refine J.pass rfl rfl ?_
      refine J.rd (Rd.pickF rfl rfl) rfl rfl ?_
      refine J.done ?_
      refine J.thenN ?_
      refine J.condF rfl ?_
      refine J.skip ?_
      refine J.blockN ?_
      refine J.thenN ?_
      have hbn : b.toNat < 128 := by
        by_cases h : b.toNat < 128
        · exact h
        · exfalso
          have h2 := hhi (by omega)
          simp only [plainB, Bool.not_eq_true', Bool.not_eq_false', decide_eq_true_eq, decide_eq_false_iff_not, bne_eq_false_iff_eq] at *
          omega
      obtain ⟨rfl, rfl⟩ := hlo hbn
      have hnc : nameC b = true := by
        rw [nameC]
        first
        | (have h3 : b = 45 := (u8_eq (d := 45)).1 (by simpa using hb3)
           rw [h3]; rfl)
        | (rw [show plainB b.toNat = true by simpa using hb2]; rfl)
      refine J.again pos (pos + 1) (by show s.size - (pos + 1) < s.size - pos; omega) (.cons rfl (.cons rfl .nil)) (fun w hw => ⟨⟨by omega, ?_⟩, hw⟩)
      rw [take_succ_of hb, List.all_append, hq2]
      simp [hnc] -- x
  · refine J.nextF rfl hlt1 rfl rfl ?_
    refine J.rd (Rd.extractL rfl) rfl rfl ?_
    refine J.done ?_
    refine J.thenN ?_
    refine J.seq ?_
    refine J.condF rfl ?_
    refine J.exit ?_
    refine J.thenE ?_
    refine J.thenE ?_
    refine J.blockE ?_
    refine J.thenN ?_
    refine J.seq ?_
    refine J.region ?_
    refine J.rd (Rd.move rfl) rfl rfl ?_
    refine J.rd (Rd.bin' rfl rfl rfl (fun _ => rfl)) rfl rfl ?_
    refine J.rd (Rd.move rfl) rfl rfl ?_
    refine J.bcase (fun hb4 => ?_) (fun hb4 => ?_)
    · skip
      refine J.rd (Rd.move rfl) rfl rfl ?_
      refine J.rd (Rd.lenStr rfl rfl Tryd.underlying9) rfl rfl ?_
      refine J.rd (Rd.bin' rfl rfl rfl (fun _ => rfl)) rfl rfl ?_
      refine J.rd (Rd.pickT rfl rfl) rfl rfl ?_
      refine J.rd (Rd.assign rfl) rfl rfl ?_
      refine J.done ?_
      refine J.thenN ?_
      refine J.ret ?_
      refine J.leave1 (.inr rfl) rfl rfl (fun w' hC => ?_)
      refine ⟨congrArg Value.bool ?_, St.sub hC⟩
      have hall : s.data.toList.take pos = s.data.toList := List.take_of_length_le (by omega)
      rw [hall] at hq2
      have hne : s.data.toList ≠ [] := by simpa [ByteArray.toList_eq] using hb4
      rw [nameF, hq2, Bool.and_true, hsz]
      simp only [ne_eq, hne, not_false_eq_true, decide_true, Bool.true_and]
      rw [Bool.eq_iff_iff, decide_eq_true_iff, decide_eq_true_iff]
      omega
    · skip
      refine J.pass rfl rfl ?_
      refine J.pass rfl rfl ?_
      refine J.pass rfl rfl ?_
      refine J.rd (Rd.pickF rfl rfl) rfl rfl ?_
      refine J.rd (Rd.assign rfl) rfl rfl ?_
      refine J.done ?_
      refine J.thenN ?_
      refine J.ret ?_
      refine J.leave1 (.inr rfl) rfl rfl (fun w' hC => ?_)
      refine ⟨congrArg Value.bool (Eq.symm ?_), St.sub hC⟩
      have hne : s.data.toList = [] := by simpa [ByteArray.toList_eq] using hb4
      rw [nameF, hne]; rfl
end Go.Proofs.YtdpfdpmjnifanaaDoor.Name
