/- reply's codes: reasons, Code, Right, Text. -/
import Derived.Test.YtdpfdpmjnifanaaDoorProg
import Derived.KernelRfl
import Derived.Test.YtdpfdpmjnifanaaDoorAgg
import Derived.Test.YtdpfdpmjnifanaaDoorTitle
import Derived.Test.YtdpfdpmjnifanaaDoorShelf
namespace Go.Proofs.YtdpfdpmjnifanaaDoor.Reply
open Go Go.RowKit Go.Sb
set_option maxRecDepth 100000
set_option linter.unusedVariables false
set_option linter.unusedSimpArgs false
theorem mixed : Tryd.prog.follows .mixedOrders = true := by kernel_rfl
theorem ti9 : TI Tryd.prog 9 1 16 (.string .empty) := TI.of (by kernel_rfl)
theorem fd71_0 : FD Tryd.prog 71 0 0 := FD.of Tryd.underlying71 (by kernel_rfl)
theorem fd71_1 : FD Tryd.prog 71 1 1 := FD.of Tryd.underlying71 (by kernel_rfl)
theorem fd71_2 : FD Tryd.prog 71 2 2 := FD.of Tryd.underlying71 (by kernel_rfl)
theorem can34 : Callable Tryd.prog 34 := ⟨Tryd.f34, Tryd.func34, by kernel_rfl, by kernel_rfl⟩
theorem can47 : Callable Tryd.prog 47 := ⟨Tryd.f47, Tryd.func47, by kernel_rfl, by kernel_rfl⟩
theorem can58 : Callable Tryd.prog 58 := ⟨Tryd.f58, Tryd.func58, by kernel_rfl, by kernel_rfl⟩
theorem can59 : Callable Tryd.prog 59 := ⟨Tryd.f59, Tryd.func59, by kernel_rfl, by kernel_rfl⟩

def reasonsL : List (Int × Value) := [(200, .string ⟨#[79, 75]⟩), (400, .string ⟨#[66, 97, 100, 32, 82, 101, 113, 117, 101, 115, 116]⟩), (401, .string ⟨#[85, 110, 97, 117, 116, 104, 111, 114, 105, 122, 101, 100]⟩),
  (403, .string ⟨#[70, 111, 114, 98, 105, 100, 100, 101, 110]⟩), (404, .string ⟨#[78, 111, 116, 32, 70, 111, 117, 110, 100]⟩), (408, .string ⟨#[82, 101, 113, 117, 101, 115, 116, 32, 84, 105, 109, 101, 111, 117, 116]⟩),
  (413, .string ⟨#[84, 111, 111, 32, 76, 97, 114, 103, 101]⟩), (503, .string ⟨#[85, 110, 97, 118, 97, 105, 108, 97, 98, 108, 101]⟩)]

def rightF (code : Int) (name : List UInt8) (every : Int) : Bool := (lookK reasonsL code).isSome && decide (0 ≤ every) && decide (every ≤ 65536) && decide (titleF name = name) && (decide (code = 200) || decide (every = 0) && decide (name = []))
def codeF (n : Int) : Int := if n = 0 then 200 else if n = 9 then 401 else if n = 8 then 403 else if n = 6 then 404 else if n = 2 then 408 else if n = 5 then 413 else if n = 7 then 503 else 400

theorem reasons_calls {Z w : World} {Lf : List HP} (hst : St Z w Lf) : Calls Tryd.prog 59 #[] w (Ret fun r w' => St Z w' (mp keyInt r reasonsL :: Lf)) := by
  refine J.enter (N := 3) (l := []) (C := Sto Z Lf) Tryd.func59 rfl Tryd.ntmps59 (by simp) (hst) ?_
  refine J.seq ?_
  refine J.region ?_
  refine J.rd (Rd.assign rfl) rfl rfl ?_
  refine J.done ?_
  refine J.thenN ?_
  refine J.seq ?_
  refine J.region ?_
  refine J.makeMap keyInt rfl rfl (fun b1 => ?_)
  refine J.insert (_) keyInt_of Tryd.underlying122 Tryd.underlying3 rfl rfl rfl rfl ?_
  refine J.insert (_) keyInt_of Tryd.underlying122 Tryd.underlying3 rfl rfl rfl rfl ?_
  refine J.insert (_) keyInt_of Tryd.underlying122 Tryd.underlying3 rfl rfl rfl rfl ?_
  refine J.insert (_) keyInt_of Tryd.underlying122 Tryd.underlying3 rfl rfl rfl rfl ?_
  refine J.insert (_) keyInt_of Tryd.underlying122 Tryd.underlying3 rfl rfl rfl rfl ?_
  refine J.insert (_) keyInt_of Tryd.underlying122 Tryd.underlying3 rfl rfl rfl rfl ?_
  refine J.insert (_) keyInt_of Tryd.underlying122 Tryd.underlying3 rfl rfl rfl rfl ?_
  refine J.insert (_) keyInt_of Tryd.underlying122 Tryd.underlying3 rfl rfl rfl rfl ?_
  refine J.rd (Rd.move rfl) rfl rfl ?_
  refine J.rd (Rd.assign rfl) rfl rfl ?_
  refine J.done ?_
  refine J.thenN ?_
  refine J.ret ?_
  refine J.leave1 (.inr rfl) rfl rfl (fun w' hC => ?_)
  exact hC

theorem Code_calls {Z w : World} {Lf : List HP} (n : Int) (hst : St Z w Lf) : Calls Tryd.prog 14 #[.int .i64 n] w (Ret fun r w' => r = .int .i64 (codeF n) ∧ St Z w' Lf) := by
  refine J.enter (N := 18) (l := [.int .i64 n]) (C := Sto Z Lf) Tryd.func14 rfl Tryd.ntmps14 (by simp) (hst) ?_
  refine J.seq ?_
  refine J.region ?_
  refine J.rd (Rd.assign rfl) rfl rfl ?_
  refine J.done ?_
  refine J.thenN ?_
  refine J.seq ?_
  refine J.seq ?_
  refine J.region ?_
  refine J.rd (Rd.move rfl) rfl rfl ?_
  refine J.done ?_
  refine J.thenN ?_
  refine J.block ?_
  refine J.seq ?_
  refine J.region ?_
  refine J.rd (Rd.bin' rfl rfl rfl (fun _ => rfl)) rfl rfl ?_
  refine J.rd (Rd.assign rfl) rfl rfl ?_
  refine J.done ?_
  refine J.thenN ?_
  refine J.cond rfl (fun hb1 => ?_) (fun hb1 => ?_)
  · skip
    refine J.seq ?_
    refine J.region ?_
    refine J.rd (Rd.assign rfl) rfl rfl ?_
    refine J.done ?_
    refine J.thenN ?_
    refine J.ret ?_
    refine J.blockR ?_
    refine J.thenR ?_
    refine J.leave1 (.inr rfl) rfl rfl (fun w' hC => ?_)
    exact ⟨by simp_all [codeF], hC⟩
  · skip
    refine J.seq ?_
    refine J.region ?_
    refine J.rd (Rd.bin' rfl rfl rfl (fun _ => rfl)) rfl rfl ?_
    refine J.rd (Rd.assign rfl) rfl rfl ?_
    refine J.done ?_
    refine J.thenN ?_
    refine J.cond rfl (fun hb2 => ?_) (fun hb2 => ?_)
    · skip
      refine J.seq ?_
      refine J.region ?_
      refine J.rd (Rd.assign rfl) rfl rfl ?_
      refine J.done ?_
      refine J.thenN ?_
      refine J.ret ?_
      refine J.blockR ?_
      refine J.thenR ?_
      refine J.leave1 (.inr rfl) rfl rfl (fun w' hC => ?_)
      exact ⟨by simp_all [codeF], hC⟩
    · skip
      refine J.seq ?_
      refine J.region ?_
      refine J.rd (Rd.bin' rfl rfl rfl (fun _ => rfl)) rfl rfl ?_
      refine J.rd (Rd.assign rfl) rfl rfl ?_
      refine J.done ?_
      refine J.thenN ?_
      refine J.cond rfl (fun hb3 => ?_) (fun hb3 => ?_)
      · skip
        refine J.seq ?_
        refine J.region ?_
        refine J.rd (Rd.assign rfl) rfl rfl ?_
        refine J.done ?_
        refine J.thenN ?_
        refine J.ret ?_
        refine J.blockR ?_
        refine J.thenR ?_
        refine J.leave1 (.inr rfl) rfl rfl (fun w' hC => ?_)
        exact ⟨by simp_all [codeF], hC⟩
      · skip
        refine J.seq ?_
        refine J.region ?_
        refine J.rd (Rd.bin' rfl rfl rfl (fun _ => rfl)) rfl rfl ?_
        refine J.rd (Rd.assign rfl) rfl rfl ?_
        refine J.done ?_
        refine J.thenN ?_
        refine J.cond rfl (fun hb4 => ?_) (fun hb4 => ?_)
        · skip
          refine J.seq ?_
          refine J.region ?_
          refine J.rd (Rd.assign rfl) rfl rfl ?_
          refine J.done ?_
          refine J.thenN ?_
          refine J.ret ?_
          refine J.blockR ?_
          refine J.thenR ?_
          refine J.leave1 (.inr rfl) rfl rfl (fun w' hC => ?_)
          exact ⟨by simp_all [codeF], hC⟩
        · skip
          refine J.seq ?_
          refine J.region ?_
          refine J.rd (Rd.bin' rfl rfl rfl (fun _ => rfl)) rfl rfl ?_
          refine J.rd (Rd.assign rfl) rfl rfl ?_
          refine J.done ?_
          refine J.thenN ?_
          refine J.cond rfl (fun hb5 => ?_) (fun hb5 => ?_)
          · skip
            refine J.seq ?_
            refine J.region ?_
            refine J.rd (Rd.assign rfl) rfl rfl ?_
            refine J.done ?_
            refine J.thenN ?_
            refine J.ret ?_
            refine J.blockR ?_
            refine J.thenR ?_
            refine J.leave1 (.inr rfl) rfl rfl (fun w' hC => ?_)
            exact ⟨by simp_all [codeF], hC⟩
          · skip
            refine J.seq ?_
            refine J.region ?_
            refine J.rd (Rd.bin' rfl rfl rfl (fun _ => rfl)) rfl rfl ?_
            refine J.rd (Rd.assign rfl) rfl rfl ?_
            refine J.done ?_
            refine J.thenN ?_
            refine J.cond rfl (fun hb6 => ?_) (fun hb6 => ?_)
            · skip
              refine J.seq ?_
              refine J.region ?_
              refine J.rd (Rd.assign rfl) rfl rfl ?_
              refine J.done ?_
              refine J.thenN ?_
              refine J.ret ?_
              refine J.blockR ?_
              refine J.thenR ?_
              refine J.leave1 (.inr rfl) rfl rfl (fun w' hC => ?_)
              exact ⟨by simp_all [codeF], hC⟩
            · skip
              refine J.seq ?_
              refine J.region ?_
              refine J.rd (Rd.bin' rfl rfl rfl (fun _ => rfl)) rfl rfl ?_
              refine J.rd (Rd.assign rfl) rfl rfl ?_
              refine J.done ?_
              refine J.thenN ?_
              refine J.cond rfl (fun hb7 => ?_) (fun hb7 => ?_)
              · skip
                refine J.seq ?_
                refine J.region ?_
                refine J.rd (Rd.assign rfl) rfl rfl ?_
                refine J.done ?_
                refine J.thenN ?_
                refine J.ret ?_
                refine J.blockR ?_
                refine J.thenR ?_
                refine J.leave1 (.inr rfl) rfl rfl (fun w' hC => ?_)
                exact ⟨by simp_all [codeF], hC⟩
              · skip
                refine J.skip ?_
                refine J.blockN ?_
                refine J.thenN ?_
                refine J.seq ?_
                refine J.region ?_
                refine J.rd (Rd.assign rfl) rfl rfl ?_
                refine J.done ?_
                refine J.thenN ?_
                refine J.ret ?_
                refine J.leave1 (.inr rfl) rfl rfl (fun w' hC => ?_)
                exact ⟨by simp_all [codeF], hC⟩

theorem Right_calls {Z w : World} {Lf : List HP} (code every : Int) (name : ByteArray) (hT : ∀ w, St Z w Lf → Lib.Utf8Tabs 1 2 w) (hs : name.size ≤ 9223372036854775807) (hst : St Z w Lf) : Calls Tryd.prog 34 #[.agg #[.int .i64 code, .string name, .int .i64 every]] w (Ret fun r w' => r = .bool (rightF code name.data.toList every) ∧ St Z w' Lf) := by
  refine J.enter (N := 45) (l := [.agg #[.int .i64 code, .string name, .int .i64 every]]) (C := Sto Z Lf) Tryd.func34 rfl Tryd.ntmps34 (by simp) (hst) ?_
  refine J.seq ?_
  refine J.region ?_
  refine J.box rfl rfl rfl rfl (fun b1 => ?_)
  refine J.rd (Rd.assign rfl) rfl rfl ?_
  refine J.done ?_
  refine J.thenN ?_
  refine J.seq ?_
  refine J.mix [(true, 1), (true, 2), (false, 0), (true, 3), (true, 4), (true, 5), (true, 6), (true, 7), (true, 8)] mixed (by kernel_rfl) (fun w n h => St.drawn h n) (fun _ hw => hw) ?_
  refine JM.rd rfl (Rd.fld fd71_0 rfl) rfl rfl ?_
  refine JM.rd rfl (Rd.ld Tryd.underlying3 rfl rfl rfl) rfl rfl ?_
  refine JM.eff rfl ?_
  refine J.call can59 rfl (fun w hC => reasons_calls hC) rfl rfl (fun v6 => ?_)
  refine JM.next (fun _ hw => hw) (fun _ hw => St.sub hw) ?_
  refine JM.rd rfl (Rd.lookupOk (k := code) keyInt_of Tryd.underlying122 Tryd.underlying3 ti9 rfl rfl) rfl rfl ?_
  refine JM.rd rfl (Rd.move rfl) rfl rfl ?_
  refine JM.rd rfl (Rd.extractL rfl) rfl rfl ?_
  refine JM.rd rfl (Rd.extractL rfl) rfl rfl ?_
  refine JM.rd rfl (Rd.assign rfl) rfl rfl ?_
  refine JM.rd rfl (Rd.assign rfl) rfl rfl ?_
  refine JM.done ?_
  refine J.thenN ?_
  refine J.seq ?_
  refine J.seq ?_
  refine J.mix [(true, 0), (true, 1), (true, 2), (true, 3), (true, 4), (true, 5), (true, 6), (true, 7), (true, 8), (true, 9), (true, 10), (true, 11), (true, 12), (true, 13), (true, 14), (true, 16), (true, 17), (false, 15), (true, 18), (true, 19)] mixed (by kernel_rfl) (fun w n h => St.drawn h n) (fun _ hw => hw) ?_
  refine JM.rd rfl (Rd.move rfl) rfl rfl ?_
  refine JM.rd rfl (Rd.un rfl (fun _ => rfl)) rfl rfl ?_
  refine JM.rd rfl (Rd.move rfl) rfl rfl ?_
  refine JM.bcase (fun hb1 => ?_) (fun hb1 => ?_)
  · skip
    refine JM.pass rfl rfl rfl ?_
    refine JM.pass rfl rfl rfl ?_
    refine JM.pass rfl rfl rfl ?_
    refine JM.rd rfl (Rd.pickT rfl rfl) rfl rfl ?_
    refine JM.rd rfl (Rd.move rfl) rfl rfl ?_
    refine JM.pass rfl rfl rfl ?_
    refine JM.pass rfl rfl rfl ?_
    refine JM.pass rfl rfl rfl ?_
    refine JM.rd rfl (Rd.pickT rfl rfl) rfl rfl ?_
    refine JM.rd rfl (Rd.move rfl) rfl rfl ?_
    refine JM.pass rfl rfl rfl ?_
    refine JM.pass rfl rfl rfl ?_
    refine JM.pass rfl rfl rfl ?_
    refine JM.pass rfl rfl rfl ?_
    refine JM.passE rfl rfl rfl (fun _ hw => hw) ?_
    refine JM.pass rfl rfl rfl ?_
    refine JM.rd rfl (Rd.pickT rfl rfl) rfl rfl ?_
    refine JM.done ?_
    refine J.thenN ?_
    refine J.condT rfl ?_
    refine J.seq ?_
    refine J.region ?_
    refine J.rd (Rd.assign rfl) rfl rfl ?_
    refine J.done ?_
    refine J.thenN ?_
    refine J.ret ?_
    refine J.thenR ?_
    refine J.leave1 (.inr rfl) rfl rfl (fun w' hC => ?_)
    refine ⟨congrArg Value.bool ?_, St.sub hC⟩
    clear hC hst hT hs
    simp only [ByteArray.toList_eq, List.toList_toArray, Bool.not_eq_true', beq_eq_false_iff_ne, beq_iff_eq, decide_eq_true_eq, decide_eq_false_iff_not, Bool.not_eq_false', ne_eq] at *
    first | (simp [rightF, *]; done) | (have hx : ¬ 0 ≤ every := (by omega); simp [rightF, *]; done) | (have hx : ¬ every ≤ 65536 := (by omega); simp [rightF, *]; done) | (have hx : 0 ≤ every := (by omega); have hy : every ≤ 65536 := (by omega); simp [rightF, *]; done) | (have hx : 0 ≤ every := (by omega); have hy : every ≤ 65536 := (by omega); simp [rightF, *]; decide) | (have hx : 0 ≤ every := (by omega); have hy : every ≤ 65536 := (by omega); simp [rightF, *]; rw [Bool.eq_iff_iff]; simp)
  · skip
    refine JM.rd rfl (Rd.fld fd71_2 rfl) rfl rfl ?_
    refine JM.rd rfl (Rd.ld Tryd.underlying3 rfl rfl rfl) rfl rfl ?_
    refine JM.rd rfl (Rd.bin' rfl rfl rfl (fun _ => rfl)) rfl rfl ?_
    refine JM.rd rfl (Rd.pickF rfl rfl) rfl rfl ?_
    refine JM.rd rfl (Rd.move rfl) rfl rfl ?_
    refine JM.bcase (fun hb2 => ?_) (fun hb2 => ?_)
    · skip
      refine JM.pass rfl rfl rfl ?_
      refine JM.pass rfl rfl rfl ?_
      refine JM.pass rfl rfl rfl ?_
      refine JM.rd rfl (Rd.pickT rfl rfl) rfl rfl ?_
      refine JM.rd rfl (Rd.move rfl) rfl rfl ?_
      refine JM.pass rfl rfl rfl ?_
      refine JM.pass rfl rfl rfl ?_
      refine JM.pass rfl rfl rfl ?_
      refine JM.pass rfl rfl rfl ?_
      refine JM.passE rfl rfl rfl (fun _ hw => hw) ?_
      refine JM.pass rfl rfl rfl ?_
      refine JM.rd rfl (Rd.pickT rfl rfl) rfl rfl ?_
      refine JM.done ?_
      refine J.thenN ?_
      refine J.condT rfl ?_
      refine J.seq ?_
      refine J.region ?_
      refine J.rd (Rd.assign rfl) rfl rfl ?_
      refine J.done ?_
      refine J.thenN ?_
      refine J.ret ?_
      refine J.thenR ?_
      refine J.leave1 (.inr rfl) rfl rfl (fun w' hC => ?_)
      refine ⟨congrArg Value.bool ?_, St.sub hC⟩
      clear hC hst hT hs
      simp only [ByteArray.toList_eq, List.toList_toArray, Bool.not_eq_true', beq_eq_false_iff_ne, beq_iff_eq, decide_eq_true_eq, decide_eq_false_iff_not, Bool.not_eq_false', ne_eq] at *
      first | (simp [rightF, *]; done) | (have hx : ¬ 0 ≤ every := (by omega); simp [rightF, *]; done) | (have hx : ¬ every ≤ 65536 := (by omega); simp [rightF, *]; done) | (have hx : 0 ≤ every := (by omega); have hy : every ≤ 65536 := (by omega); simp [rightF, *]; done) | (have hx : 0 ≤ every := (by omega); have hy : every ≤ 65536 := (by omega); simp [rightF, *]; decide) | (have hx : 0 ≤ every := (by omega); have hy : every ≤ 65536 := (by omega); simp [rightF, *]; rw [Bool.eq_iff_iff]; simp)
    · skip
      refine JM.rd rfl (Rd.fld fd71_2 rfl) rfl rfl ?_
      refine JM.rd rfl (Rd.ld Tryd.underlying3 rfl rfl rfl) rfl rfl ?_
      refine JM.rd rfl (Rd.bin' rfl rfl rfl (fun _ => rfl)) rfl rfl ?_
      refine JM.rd rfl (Rd.pickF rfl rfl) rfl rfl ?_
      refine JM.rd rfl (Rd.move rfl) rfl rfl ?_
      refine JM.bcase (fun hb3 => ?_) (fun hb3 => ?_)
      · skip
        refine JM.pass rfl rfl rfl ?_
        refine JM.pass rfl rfl rfl ?_
        refine JM.pass rfl rfl rfl ?_
        refine JM.pass rfl rfl rfl ?_
        refine JM.passE rfl rfl rfl (fun _ hw => hw) ?_
        refine JM.pass rfl rfl rfl ?_
        refine JM.rd rfl (Rd.pickT rfl rfl) rfl rfl ?_
        refine JM.done ?_
        refine J.thenN ?_
        refine J.condT rfl ?_
        refine J.seq ?_
        refine J.region ?_
        refine J.rd (Rd.assign rfl) rfl rfl ?_
        refine J.done ?_
        refine J.thenN ?_
        refine J.ret ?_
        refine J.thenR ?_
        refine J.leave1 (.inr rfl) rfl rfl (fun w' hC => ?_)
        refine ⟨congrArg Value.bool ?_, St.sub hC⟩
        clear hC hst hT hs
        simp only [ByteArray.toList_eq, List.toList_toArray, Bool.not_eq_true', beq_eq_false_iff_ne, beq_iff_eq, decide_eq_true_eq, decide_eq_false_iff_not, Bool.not_eq_false', ne_eq] at *
        first | (simp [rightF, *]; done) | (have hx : ¬ 0 ≤ every := (by omega); simp [rightF, *]; done) | (have hx : ¬ every ≤ 65536 := (by omega); simp [rightF, *]; done) | (have hx : 0 ≤ every := (by omega); have hy : every ≤ 65536 := (by omega); simp [rightF, *]; done) | (have hx : 0 ≤ every := (by omega); have hy : every ≤ 65536 := (by omega); simp [rightF, *]; decide) | (have hx : 0 ≤ every := (by omega); have hy : every ≤ 65536 := (by omega); simp [rightF, *]; rw [Bool.eq_iff_iff]; simp)
      · skip
        refine JM.rd rfl (Rd.fld fd71_1 rfl) rfl rfl ?_
        refine JM.rd rfl (Rd.ld Tryd.underlying9 rfl rfl rfl) rfl rfl ?_
        refine JM.rd rfl (Rd.fld fd71_1 rfl) rfl rfl ?_
        refine JM.rd rfl (Rd.ld Tryd.underlying9 rfl rfl rfl) rfl rfl ?_
        refine JM.eff rfl ?_
        refine J.call can47 rfl (fun w hC => Title.Title_calls name (fun w hw => hT w (St.sub hw)) hs hC) rfl rfl (fun v27 => ?_)
        refine J.andC fun hv27 => ?_
        subst hv27
        refine JM.next (fun _ hw => hw) (fun _ hw => St.sub hw) ?_
        refine JM.rd rfl (Rd.bin' rfl rfl rfl (fun _ => rfl)) rfl rfl ?_
        refine JM.rd rfl (Rd.pickF rfl rfl) rfl rfl ?_
        refine JM.done ?_
        refine J.thenN ?_
        refine J.cond rfl (fun hb4 => ?_) (fun hb4 => ?_)
        · skip
          refine J.seq ?_
          refine J.region ?_
          refine J.rd (Rd.assign rfl) rfl rfl ?_
          refine J.done ?_
          refine J.thenN ?_
          refine J.ret ?_
          refine J.thenR ?_
          refine J.leave1 (.inr rfl) rfl rfl (fun w' hC => ?_)
          refine ⟨congrArg Value.bool ?_, St.sub hC⟩
          clear hC hst hT hs
          simp only [ByteArray.toList_eq, List.toList_toArray, Bool.not_eq_true', beq_eq_false_iff_ne, beq_iff_eq, decide_eq_true_eq, decide_eq_false_iff_not, Bool.not_eq_false', ne_eq] at *
          first | (simp [rightF, *]; done) | (have hx : ¬ 0 ≤ every := (by omega); simp [rightF, *]; done) | (have hx : ¬ every ≤ 65536 := (by omega); simp [rightF, *]; done) | (have hx : 0 ≤ every := (by omega); have hy : every ≤ 65536 := (by omega); simp [rightF, *]; done) | (have hx : 0 ≤ every := (by omega); have hy : every ≤ 65536 := (by omega); simp [rightF, *]; decide) | (have hx : 0 ≤ every := (by omega); have hy : every ≤ 65536 := (by omega); simp [rightF, *]; rw [Bool.eq_iff_iff]; simp)
        · skip
          refine J.skip ?_
          refine J.thenN ?_
          refine J.seq ?_
          refine J.region ?_
          refine J.rd (Rd.fld fd71_0 rfl) rfl rfl ?_
          refine J.rd (Rd.ld Tryd.underlying3 rfl rfl rfl) rfl rfl ?_
          refine J.rd (Rd.bin' rfl rfl rfl (fun _ => rfl)) rfl rfl ?_
          refine J.rd (Rd.move rfl) rfl rfl ?_
          refine J.bcase (fun hb5 => ?_) (fun hb5 => ?_)
          · skip
            refine J.pass rfl rfl ?_
            refine J.pass rfl rfl ?_
            refine J.pass rfl rfl ?_
            refine J.pass rfl rfl ?_
            refine J.pass rfl rfl ?_
            refine J.pass rfl rfl ?_
            refine J.pass rfl rfl ?_
            refine J.pass rfl rfl ?_
            refine J.rd (Rd.pickT rfl rfl) rfl rfl ?_
            refine J.rd (Rd.assign rfl) rfl rfl ?_
            refine J.done ?_
            refine J.thenN ?_
            refine J.ret ?_
            refine J.leave1 (.inr rfl) rfl rfl (fun w' hC => ?_)
            refine ⟨congrArg Value.bool ?_, St.sub hC⟩
            clear hC hst hT hs
            simp only [ByteArray.toList_eq, List.toList_toArray, Bool.not_eq_true', beq_eq_false_iff_ne, beq_iff_eq, decide_eq_true_eq, decide_eq_false_iff_not, Bool.not_eq_false', ne_eq] at *
            first | (simp [rightF, *]; done) | (have hx : ¬ 0 ≤ every := (by omega); simp [rightF, *]; done) | (have hx : ¬ every ≤ 65536 := (by omega); simp [rightF, *]; done) | (have hx : 0 ≤ every := (by omega); have hy : every ≤ 65536 := (by omega); simp [rightF, *]; done) | (have hx : 0 ≤ every := (by omega); have hy : every ≤ 65536 := (by omega); simp [rightF, *]; decide) | (have hx : 0 ≤ every := (by omega); have hy : every ≤ 65536 := (by omega); simp [rightF, *]; rw [Bool.eq_iff_iff]; simp)
          · skip
            refine J.rd (Rd.fld fd71_2 rfl) rfl rfl ?_
            refine J.rd (Rd.ld Tryd.underlying3 rfl rfl rfl) rfl rfl ?_
            refine J.rd (Rd.bin' rfl rfl rfl (fun _ => rfl)) rfl rfl ?_
            refine J.rd (Rd.move rfl) rfl rfl ?_
            refine J.bcase (fun hb6 => ?_) (fun hb6 => ?_)
            · skip
              refine J.rd (Rd.fld fd71_1 rfl) rfl rfl ?_
              refine J.rd (Rd.ld Tryd.underlying9 rfl rfl rfl) rfl rfl ?_
              refine J.rd (Rd.bin' rfl rfl rfl (fun _ => rfl)) rfl rfl ?_
              refine J.rd (Rd.pickT rfl rfl) rfl rfl ?_
              refine J.rd (Rd.pickF rfl rfl) rfl rfl ?_
              refine J.rd (Rd.assign rfl) rfl rfl ?_
              refine J.done ?_
              refine J.thenN ?_
              refine J.ret ?_
              refine J.leave1 (.inr rfl) rfl rfl (fun w' hC => ?_)
              refine ⟨congrArg Value.bool ?_, St.sub hC⟩
              clear hC hst hT hs
              simp only [ByteArray.toList_eq, List.toList_toArray, Bool.not_eq_true', beq_eq_false_iff_ne, beq_iff_eq, decide_eq_true_eq, decide_eq_false_iff_not, Bool.not_eq_false', ne_eq] at *
              first | (simp [rightF, *]; done) | (have hx : ¬ 0 ≤ every := (by omega); simp [rightF, *]; done) | (have hx : ¬ every ≤ 65536 := (by omega); simp [rightF, *]; done) | (have hx : 0 ≤ every := (by omega); have hy : every ≤ 65536 := (by omega); simp [rightF, *]; done) | (have hx : 0 ≤ every := (by omega); have hy : every ≤ 65536 := (by omega); simp [rightF, *]; decide) | (have hx : 0 ≤ every := (by omega); have hy : every ≤ 65536 := (by omega); simp [rightF, *]; rw [Bool.eq_iff_iff]; simp)
            · skip
              refine J.pass rfl rfl ?_
              refine J.pass rfl rfl ?_
              refine J.pass rfl rfl ?_
              refine J.rd (Rd.pickF rfl rfl) rfl rfl ?_
              refine J.rd (Rd.pickF rfl rfl) rfl rfl ?_
              refine J.rd (Rd.assign rfl) rfl rfl ?_
              refine J.done ?_
              refine J.thenN ?_
              refine J.ret ?_
              refine J.leave1 (.inr rfl) rfl rfl (fun w' hC => ?_)
              refine ⟨congrArg Value.bool ?_, St.sub hC⟩
              clear hC hst hT hs
              simp only [ByteArray.toList_eq, List.toList_toArray, Bool.not_eq_true', beq_eq_false_iff_ne, beq_iff_eq, decide_eq_true_eq, decide_eq_false_iff_not, Bool.not_eq_false', ne_eq] at *
              first | (simp [rightF, *]; done) | (have hx : ¬ 0 ≤ every := (by omega); simp [rightF, *]; done) | (have hx : ¬ every ≤ 65536 := (by omega); simp [rightF, *]; done) | (have hx : 0 ≤ every := (by omega); have hy : every ≤ 65536 := (by omega); simp [rightF, *]; done) | (have hx : 0 ≤ every := (by omega); have hy : every ≤ 65536 := (by omega); simp [rightF, *]; decide) | (have hx : 0 ≤ every := (by omega); have hy : every ≤ 65536 := (by omega); simp [rightF, *]; rw [Bool.eq_iff_iff]; simp)

theorem Itoa_calls {Z w : World} {L : List HP} (n : Int) (h0 : -9223372036854775808 ≤ n) (h1 : n ≤ 9223372036854775807) (hP : ∀ w, St Z w L → Lib.TabIs Tryd.prog w "internal/strconv.uint64pow10" .u64 Lib.pow10Tab) (hst : St Z w L) :
    Calls Tryd.prog 58 #[.int .i64 n] w (Ret fun r w' => r = .string ⟨(Lib.itoa n).toArray⟩ ∧ St Z w' L) :=
  (Tryd.strconv_Itoa n h0 h1 w (hP w hst)).mono fun e w' ⟨h1, k, os, h2⟩ => ⟨_, h1, rfl, h2 ▸ hst.keep ⟨rfl, rfl, rfl⟩ (fun i hi => by show (w.heap ++ os)[i]? = w.heap[i]?; rw [Array.getElem?_append]; simp [hi])⟩
def bHttp : List UInt8 := [72, 84, 84, 80, 47, 49, 46, 48, 32]
def bCrlf : List UInt8 := [13, 10]
def bLen : List UInt8 := [67, 111, 110, 116, 101, 110, 116, 45, 76, 101, 110, 103, 116, 104, 58, 32, 48]
def bName : List UInt8 := [105, 99, 121, 45, 110, 97, 109, 101, 58]
def bIcy : List UInt8 := [73, 67, 89, 32]
def bMeta : List UInt8 := [105, 99, 121, 45, 109, 101, 116, 97, 105, 110, 116, 58]
def reasonB (code : Int) : List UInt8 := match lookK reasonsL code with
  | some (.string s) => s.data.toList
  | _ => []
theorem code_cases {code : Int} (h : (lookK reasonsL code).isSome = true) : code = 200 ∨ code = 400 ∨ code = 401 ∨ code = 403 ∨ code = 404 ∨ code = 408 ∨ code = 413 ∨ code = 503 := by
  by_cases h1 : code = 200 ∨ code = 400 ∨ code = 401 ∨ code = 403 ∨ code = 404 ∨ code = 408 ∨ code = 413 ∨ code = 503
  · exact h1
  · exfalso
    simp only [not_or] at h1
    obtain ⟨h2, h3, h4, h5, h6, h7, h8, h9⟩ := h1
    simp [reasonsL, lookK, Ne.symm h2, Ne.symm h3, Ne.symm h4, Ne.symm h5, Ne.symm h6, Ne.symm h7, Ne.symm h8, Ne.symm h9] at h
theorem reason_val {code : Int} (h : (lookK reasonsL code).isSome = true) : (lookK reasonsL code).getD (.string .empty) = .string ⟨(reasonB code).toArray⟩ ∧ (reasonB code).length ≤ 20 := by
  rcases code_cases h with rfl | rfl | rfl | rfl | rfl | rfl | rfl | rfl <;> exact ⟨rfl, by decide⟩
def codeB (code : Int) : List UInt8 := Lib.itoa code ++ [32] ++ reasonB code
def textF (code : Int) (name : List UInt8) (every : Int) : List UInt8 :=
  if code ≠ 200 then bHttp ++ codeB code ++ bCrlf ++ bLen ++ bCrlf ++ bCrlf
  else if every = 0 then bHttp ++ codeB code ++ bCrlf ++ bName ++ name ++ bCrlf ++ bCrlf
  else bIcy ++ codeB code ++ bCrlf ++ bName ++ name ++ bCrlf ++ bMeta ++ Lib.itoa every ++ bCrlf ++ bCrlf

theorem Text_good {Z w : World} {Lf : List HP} (code every : Int) (name : ByteArray) (hT : ∀ w, St Z w Lf → Lib.Utf8Tabs 1 2 w) (hP : ∀ w, St Z w Lf → Lib.TabIs Tryd.prog w "internal/strconv.uint64pow10" .u64 Lib.pow10Tab) (hs : name.size ≤ 1000000) (hr : rightF code name.data.toList every = true) (hst : St Z w Lf) : Calls Tryd.prog 33 #[.agg #[.int .i64 code, .string name, .int .i64 every]] w (Ret fun r w' => ∃ v, r = .tuple #[v, .int .i64 0] ∧ St Z w' (ro v (bytesV (textF code name.data.toList every)) :: Lf)) := by
  refine J.enter (N := 58) (l := [.agg #[.int .i64 code, .string name, .int .i64 every]]) (C := Sto Z Lf) Tryd.func33 rfl Tryd.ntmps33 (by simp) (hst) ?_
  have hk : (lookK reasonsL code).isSome = true := by simp [rightF] at hr; exact hr.1.1.1.1
  have he0 : 0 ≤ every ∧ every ≤ 65536 := by simp [rightF] at hr; omega
  have hcc := code_cases hk
  have hc0 : -9223372036854775808 ≤ code ∧ code ≤ 9223372036854775807 := by omega
  have hil := Lib.itoa_length_le code hc0.1 hc0.2
  have hil2 := Lib.itoa_length_le every (by omega) (by omega)
  obtain ⟨hrv, hrl⟩ := reason_val hk
  refine J.seq ?_
  refine J.region ?_
  refine J.box rfl rfl rfl rfl (fun b1 => ?_)
  refine J.rd (Rd.assign rfl) rfl rfl ?_
  refine J.rd (Rd.assign rfl) rfl rfl ?_
  refine J.done ?_
  refine J.thenN ?_
  refine J.seq ?_
  refine J.seq ?_
  refine J.region ?_
  refine J.rd (Rd.ldAgg 3 Tryd.underlying71 rfl (by kernel_rfl) rfl) rfl rfl ?_
  refine J.call can34 rfl (fun w hC => Right_calls code every name (fun w hw => hT w (St.sub hw)) (by omega) hC) rfl rfl (fun v6 => ?_)
  refine J.andC fun hv6 => ?_
  rw [hr] at hv6
  subst hv6
  refine J.rd (Rd.un rfl (fun _ => rfl)) rfl rfl ?_
  refine J.done ?_
  refine J.thenN ?_
  refine J.cond rfl (fun hb1 => ?_) (fun hb1 => ?_)
  · skip
    cases hb1
  · skip
    refine J.skip ?_
    refine J.thenN ?_
    refine J.seq ?_
    refine J.mix [(true, 0), (true, 1), (true, 5), (true, 6), (false, 2), (true, 3), (false, 4), (true, 7), (true, 8), (true, 9)] mixed (by kernel_rfl) (fun w n h => St.drawn h n) (fun _ hw => hw) ?_
    refine JM.rd rfl (Rd.fld fd71_0 rfl) rfl rfl ?_
    refine JM.rd rfl (Rd.ld Tryd.underlying3 rfl rfl rfl) rfl rfl ?_
    refine JM.rd rfl (Rd.fld fd71_0 rfl) rfl rfl ?_
    refine JM.rd rfl (Rd.ld Tryd.underlying3 rfl rfl rfl) rfl rfl ?_
    refine JM.eff rfl ?_
    refine J.call can58 rfl (fun w hC => Itoa_calls code hc0.1 hc0.2 (fun w hw => hP w (St.sub hw)) hC) rfl rfl (fun v10 => ?_)
    refine J.andC fun hv10 => ?_
    subst hv10
    refine JM.next (fun _ hw => hw) (fun _ hw => St.sub hw) ?_
    refine JM.rd rfl (Rd.cat rfl rfl (by simp [size_mk]; omega)) rfl rfl ?_
    refine JM.eff rfl ?_
    refine J.call can59 rfl (fun w hC => reasons_calls hC) rfl rfl (fun v12 => ?_)
    refine JM.next (fun _ hw => hw) (fun _ hw => St.sub hw) ?_
    refine JM.rd rfl (Rd.lookup (k := code) keyInt_of Tryd.underlying122 Tryd.underlying3 ti9 rfl rfl) rfl rfl ?_
    refine JM.val hrv ?_
    refine JM.rd rfl (Rd.cat rfl rfl (by simp [size_mk]; omega)) rfl rfl ?_
    refine JM.rd rfl (Rd.assign rfl) rfl rfl ?_
    refine JM.done ?_
    refine J.thenN ?_
    refine J.seq ?_
    refine J.block ?_
    refine J.seq ?_
    refine J.region ?_
    refine J.rd (Rd.fld fd71_0 rfl) rfl rfl ?_
    refine J.rd (Rd.ld Tryd.underlying3 rfl rfl rfl) rfl rfl ?_
    refine J.rd (Rd.bin' rfl rfl rfl (fun _ => rfl)) rfl rfl ?_
    refine J.rd (Rd.assign rfl) rfl rfl ?_
    refine J.done ?_
    refine J.thenN ?_
    refine J.cond rfl (fun hb2 => ?_) (fun hb2 => ?_)
    · skip
      refine J.seq ?_
      refine J.region ?_
      refine J.rd (Rd.move rfl) rfl rfl ?_
      refine J.rd (Rd.cat rfl rfl (by simp [size_mk]; omega)) rfl rfl ?_
      refine J.rd (Rd.cat rfl rfl (by simp [size_mk]; omega)) rfl rfl ?_
      refine J.rd (Rd.cat rfl rfl (by simp [size_mk]; omega)) rfl rfl ?_
      refine J.rd (Rd.cat rfl rfl (by simp [size_mk]; omega)) rfl rfl ?_
      refine J.rd (Rd.cat rfl rfl (by simp [size_mk]; omega)) rfl rfl ?_
      refine J.convSB Tryd.underlying9 Tryd.underlying27 Tryd.underlying5 rfl rfl rfl (fun b27 c27 => ?_)
      refine J.rd (Rd.assign rfl) rfl rfl ?_
      refine J.rd (Rd.assign rfl) rfl rfl ?_
      refine J.done ?_
      refine J.thenN ?_
      refine J.ret ?_
      refine J.blockR ?_
      refine J.thenR ?_
      refine J.leave2 (.inr rfl) rfl rfl rfl (fun w' hC => ?_)
      refine ⟨_, rfl, ?_⟩
      have h : St Z w' (ro _ (bytesV _) :: Lf) := St.drop (i := 1) (St.dropP b1 hC) (by simp)
      refine (congrArg (fun l => St Z w' (ro _ (bytesV l) :: Lf)) (show textF code name.data.toList every = _ from ?_)).mpr h
      clear h hC
      simp at *
      simp [textF, *, codeB, bHttp, bCrlf, bLen, bName, bIcy, bMeta]
    · skip
      refine J.seq ?_
      refine J.region ?_
      refine J.rd (Rd.fld fd71_2 rfl) rfl rfl ?_
      refine J.rd (Rd.ld Tryd.underlying3 rfl rfl rfl) rfl rfl ?_
      refine J.rd (Rd.bin' rfl rfl rfl (fun _ => rfl)) rfl rfl ?_
      refine J.rd (Rd.assign rfl) rfl rfl ?_
      refine J.done ?_
      refine J.thenN ?_
      refine J.cond rfl (fun hb3 => ?_) (fun hb3 => ?_)
      · skip
        refine J.seq ?_
        refine J.region ?_
        refine J.rd (Rd.move rfl) rfl rfl ?_
        refine J.rd (Rd.cat rfl rfl (by simp [size_mk]; omega)) rfl rfl ?_
        refine J.rd (Rd.cat rfl rfl (by simp [size_mk]; omega)) rfl rfl ?_
        refine J.rd (Rd.cat rfl rfl (by simp [size_mk]; omega)) rfl rfl ?_
        refine J.rd (Rd.fld fd71_1 rfl) rfl rfl ?_
        refine J.rd (Rd.ld Tryd.underlying9 rfl rfl rfl) rfl rfl ?_
        refine J.rd (Rd.cat rfl rfl (by simp [size_mk]; omega)) rfl rfl ?_
        refine J.rd (Rd.cat rfl rfl (by simp [size_mk]; omega)) rfl rfl ?_
        refine J.rd (Rd.cat rfl rfl (by simp [size_mk]; omega)) rfl rfl ?_
        refine J.convSB Tryd.underlying9 Tryd.underlying27 Tryd.underlying5 rfl rfl rfl (fun b41 c41 => ?_)
        refine J.rd (Rd.assign rfl) rfl rfl ?_
        refine J.rd (Rd.assign rfl) rfl rfl ?_
        refine J.done ?_
        refine J.thenN ?_
        refine J.ret ?_
        refine J.blockR ?_
        refine J.thenR ?_
        refine J.leave2 (.inr rfl) rfl rfl rfl (fun w' hC => ?_)
        refine ⟨_, rfl, ?_⟩
        have h : St Z w' (ro _ (bytesV _) :: Lf) := St.drop (i := 1) (St.dropP b1 hC) (by simp)
        refine (congrArg (fun l => St Z w' (ro _ (bytesV l) :: Lf)) (show textF code name.data.toList every = _ from ?_)).mpr h
        clear h hC
        simp at *
        simp [textF, *, codeB, bHttp, bCrlf, bLen, bName, bIcy, bMeta]
      · skip
        refine J.skip ?_
        refine J.blockN ?_
        refine J.thenN ?_
        refine J.seq ?_
        refine J.mix [(true, 0), (true, 1), (true, 2), (true, 3), (true, 4), (true, 5), (true, 6), (true, 7), (true, 8), (true, 9), (true, 10), (false, 11), (true, 12), (true, 13), (true, 14), (false, 15), (true, 16), (true, 17)] mixed (by kernel_rfl) (fun w n h => St.drawn h n) (fun _ hw => hw) ?_
        refine JM.rd rfl (Rd.move rfl) rfl rfl ?_
        refine JM.rd rfl (Rd.cat rfl rfl (by simp [size_mk]; omega)) rfl rfl ?_
        refine JM.rd rfl (Rd.cat rfl rfl (by simp [size_mk]; omega)) rfl rfl ?_
        refine JM.rd rfl (Rd.cat rfl rfl (by simp [size_mk]; omega)) rfl rfl ?_
        refine JM.rd rfl (Rd.fld fd71_1 rfl) rfl rfl ?_
        refine JM.rd rfl (Rd.ld Tryd.underlying9 rfl rfl rfl) rfl rfl ?_
        refine JM.rd rfl (Rd.cat rfl rfl (by simp [size_mk]; omega)) rfl rfl ?_
        refine JM.rd rfl (Rd.cat rfl rfl (by simp [size_mk]; omega)) rfl rfl ?_
        refine JM.rd rfl (Rd.cat rfl rfl (by simp [size_mk]; omega)) rfl rfl ?_
        refine JM.rd rfl (Rd.fld fd71_2 rfl) rfl rfl ?_
        refine JM.rd rfl (Rd.ld Tryd.underlying3 rfl rfl rfl) rfl rfl ?_
        refine JM.eff rfl ?_
        refine J.call can58 rfl (fun w hC => Itoa_calls every (by omega) (by omega) (fun w hw => hP w (St.sub hw)) hC) rfl rfl (fun v53 => ?_)
        refine J.andC fun hv53 => ?_
        subst hv53
        refine JM.next (fun _ hw => hw) (fun _ hw => St.sub hw) ?_
        refine JM.rd rfl (Rd.cat rfl rfl (by simp [size_mk]; omega)) rfl rfl ?_
        refine JM.rd rfl (Rd.cat rfl rfl (by simp [size_mk]; omega)) rfl rfl ?_
        refine JM.rd rfl (Rd.cat rfl rfl (by simp [size_mk]; omega)) rfl rfl ?_
        refine JM.eff rfl ?_
        refine J.convSB Tryd.underlying9 Tryd.underlying27 Tryd.underlying5 rfl rfl rfl (fun b57 c57 => ?_)
        refine JM.next (fun _ hw => hw) (fun _ hw => St.sub hw) ?_
        refine JM.rd rfl (Rd.assign rfl) rfl rfl ?_
        refine JM.rd rfl (Rd.assign rfl) rfl rfl ?_
        refine JM.done ?_
        refine J.thenN ?_
        refine J.ret ?_
        refine J.leave2 (.inr rfl) rfl rfl rfl (fun w' hC => ?_)
        refine ⟨_, rfl, ?_⟩
        have h : St Z w' (ro _ (bytesV _) :: Lf) := St.drop (i := 1) (St.dropP b1 hC) (by simp)
        refine (congrArg (fun l => St Z w' (ro _ (bytesV l) :: Lf)) (show textF code name.data.toList every = _ from ?_)).mpr h
        clear h hC
        simp at *
        simp [textF, *, codeB, bHttp, bCrlf, bLen, bName, bIcy, bMeta]
end Go.Proofs.YtdpfdpmjnifanaaDoor.Reply
