/- law18's lives, words, ReplyCodes. -/
import Derived.Test.YtdpfdpmjnifanaaDoorProg
import Derived.KernelRfl
import Derived.Test.YtdpfdpmjnifanaaDoorReply
namespace Go.Proofs.YtdpfdpmjnifanaaDoor.Rcodes
open Go Go.RowKit Go.Sb
set_option maxRecDepth 100000
set_option linter.unusedVariables false
set_option linter.unusedSimpArgs false
theorem mixed : Tryd.prog.follows .mixedOrders = true := by kernel_rfl
theorem bd71 : BD Tryd.prog 71 [(0, 1), (1, 1), (2, 1)] [.int .i64 0, .string .empty, .int .i64 0] := BD.of Tryd.underlying71 (by kernel_rfl) (by kernel_rfl)
theorem can13 : Callable Tryd.prog 13 := ⟨Tryd.f13, Tryd.func13, by kernel_rfl, by kernel_rfl⟩
theorem can14 : Callable Tryd.prog 14 := ⟨Tryd.f14, Tryd.func14, by kernel_rfl, by kernel_rfl⟩
theorem can15 : Callable Tryd.prog 15 := ⟨Tryd.f15, Tryd.func15, by kernel_rfl, by kernel_rfl⟩
theorem can33 : Callable Tryd.prog 33 := ⟨Tryd.f33, Tryd.func33, by kernel_rfl, by kernel_rfl⟩

open Reply
theorem title_nil : titleF [] = [] := rfl
theorem right404 : rightF 404 ByteArray.empty.data.toList 0 = true := by simp [rightF, title_nil]; decide
theorem itoa404 : Lib.itoa 404 = [52, 48, 52] := by decide +kernel

theorem lives_calls {Z w : World} {Lf : List HP} (hT : ∀ w, St Z w Lf → Lib.Utf8Tabs 1 2 w) (hP : ∀ w, St Z w Lf → Lib.TabIs Tryd.prog w "internal/strconv.uint64pow10" .u64 Lib.pow10Tab) (hst : St Z w Lf) : Calls Tryd.prog 13 #[] w (Ret fun r w' => r = .bool true ∧ St Z w' Lf) := by
  refine J.enter (N := 17) (l := []) (C := Sto Z Lf) Tryd.func13 rfl Tryd.ntmps13 (by simp) (hst) ?_
  refine J.seq ?_
  refine J.region ?_
  refine J.rd (Rd.assign rfl) rfl rfl ?_
  refine J.done ?_
  refine J.thenN ?_
  refine J.seq ?_
  refine J.region ?_
  refine J.rd (Rd.build (ps := [(0, .const (.int .i64 404))]) bd71 rfl rfl) rfl rfl ?_
  refine J.call can33 rfl (fun w hC => Text_good 404 0 .empty (fun w hw => hT w (St.sub hw)) (fun w hw => hP w (St.sub hw)) (by decide) right404 hC) rfl rfl (fun v5 => ?_)
  refine J.exC fun vt => ?_
  refine J.andC fun hv5 => ?_
  subst hv5
  refine J.rd (Rd.move rfl) rfl rfl ?_
  refine J.rd (Rd.extractL rfl) rfl rfl ?_
  refine J.rd (Rd.extractL rfl) rfl rfl ?_
  refine J.rd (Rd.assign rfl) rfl rfl ?_
  refine J.rd (Rd.assign rfl) rfl rfl ?_
  refine J.done ?_
  refine J.thenN ?_
  refine J.seq ?_
  refine J.region ?_
  refine J.rd (Rd.move rfl) rfl rfl ?_
  refine J.rd (Rd.bin' rfl rfl rfl (fun _ => rfl)) rfl rfl ?_
  refine J.rd (Rd.move rfl) rfl rfl ?_
  refine J.bcase (fun hb1 => ?_) (fun hb1 => ?_)
  · skip
    refine J.rd (Rd.move rfl) rfl rfl ?_
    refine J.rd (Rd.convBS Tryd.underlying27 Tryd.underlying9 rfl (fun w hw => SlR_ro hw) Tryd.underlying5) rfl rfl ?_
    refine J.rd (Rd.bin' rfl rfl rfl (fun _ => rfl)) rfl rfl ?_
    refine J.rd (Rd.pickT rfl rfl) rfl rfl ?_
    refine J.rd (Rd.move rfl) rfl rfl ?_
    refine J.rd (Rd.pickTF rfl rfl rfl) rfl rfl ?_
    refine J.rd (Rd.assign rfl) rfl rfl ?_
    refine J.done ?_
    refine J.thenN ?_
    refine J.ret ?_
    refine J.leave1 (.inr rfl) rfl rfl (fun w' hC => ?_)
    exact ⟨congrArg Value.bool (by rw [ByteArray.toList_eq, ByteArray.toList_eq]; simp [textF, codeB, itoa404]; decide +kernel), St.drop (i := 0) hC (by simp)⟩
  · skip
    cases hb1

theorem words_calls {Z w : World} {Lf : List HP} (code : Int) (hst : St Z w Lf) : Calls Tryd.prog 15 #[.int .i64 code] w (Ret fun r w' => r = .string ⟨(reasonB code).toArray⟩ ∧ St Z w' Lf) := by
  refine J.enter (N := 20) (l := [.int .i64 code]) (C := Sto Z Lf) Tryd.func15 rfl Tryd.ntmps15 (by simp) (hst) ?_
  refine J.seq ?_
  refine J.region ?_
  refine J.rd (Rd.assign rfl) rfl rfl ?_
  refine J.done ?_
  refine J.thenN ?_
  refine J.seq ?_
  refine J.seq ?_
  refine J.region ?_
  refine J.rd (Rd.move rfl) rfl rfl ?_
  refine J.done ?_
  refine J.thenN ?_
  refine J.block ?_
  refine J.seq ?_
  refine J.region ?_
  refine J.rd (Rd.bin' rfl rfl rfl (fun _ => rfl)) rfl rfl ?_
  refine J.rd (Rd.assign rfl) rfl rfl ?_
  refine J.done ?_
  refine J.thenN ?_
  refine J.cond rfl (fun hb1 => ?_) (fun hb1 => ?_)
  · skip
    refine J.seq ?_
    refine J.region ?_
    refine J.rd (Rd.assign rfl) rfl rfl ?_
    refine J.done ?_
    refine J.thenN ?_
    refine J.ret ?_
    refine J.blockR ?_
    refine J.thenR ?_
    refine J.leave1 (.inr rfl) rfl rfl (fun w' hC => ?_)
    refine ⟨?_, hC⟩
    clear hC hst
    simp only [beq_iff_eq, beq_eq_false_iff_ne, ne_eq] at *
    first | (subst code; rfl) | (simp [reasonB, lookK, reasonsL, eq_comm, *])
  · skip
    refine J.seq ?_
    refine J.region ?_
    refine J.rd (Rd.bin' rfl rfl rfl (fun _ => rfl)) rfl rfl ?_
    refine J.rd (Rd.assign rfl) rfl rfl ?_
    refine J.done ?_
    refine J.thenN ?_
    refine J.cond rfl (fun hb2 => ?_) (fun hb2 => ?_)
    · skip
      refine J.seq ?_
      refine J.region ?_
      refine J.rd (Rd.assign rfl) rfl rfl ?_
      refine J.done ?_
      refine J.thenN ?_
      refine J.ret ?_
      refine J.blockR ?_
      refine J.thenR ?_
      refine J.leave1 (.inr rfl) rfl rfl (fun w' hC => ?_)
      refine ⟨?_, hC⟩
      clear hC hst
      simp only [beq_iff_eq, beq_eq_false_iff_ne, ne_eq] at *
      first | (subst code; rfl) | (simp [reasonB, lookK, reasonsL, eq_comm, *])
    · skip
      refine J.seq ?_
      refine J.region ?_
      refine J.rd (Rd.bin' rfl rfl rfl (fun _ => rfl)) rfl rfl ?_
      refine J.rd (Rd.assign rfl) rfl rfl ?_
      refine J.done ?_
      refine J.thenN ?_
      refine J.cond rfl (fun hb3 => ?_) (fun hb3 => ?_)
      · skip
        refine J.seq ?_
        refine J.region ?_
        refine J.rd (Rd.assign rfl) rfl rfl ?_
        refine J.done ?_
        refine J.thenN ?_
        refine J.ret ?_
        refine J.blockR ?_
        refine J.thenR ?_
        refine J.leave1 (.inr rfl) rfl rfl (fun w' hC => ?_)
        refine ⟨?_, hC⟩
        clear hC hst
        simp only [beq_iff_eq, beq_eq_false_iff_ne, ne_eq] at *
        first | (subst code; rfl) | (simp [reasonB, lookK, reasonsL, eq_comm, *])
      · skip
        refine J.seq ?_
        refine J.region ?_
        refine J.rd (Rd.bin' rfl rfl rfl (fun _ => rfl)) rfl rfl ?_
        refine J.rd (Rd.assign rfl) rfl rfl ?_
        refine J.done ?_
        refine J.thenN ?_
        refine J.cond rfl (fun hb4 => ?_) (fun hb4 => ?_)
        · skip
          refine J.seq ?_
          refine J.region ?_
          refine J.rd (Rd.assign rfl) rfl rfl ?_
          refine J.done ?_
          refine J.thenN ?_
          refine J.ret ?_
          refine J.blockR ?_
          refine J.thenR ?_
          refine J.leave1 (.inr rfl) rfl rfl (fun w' hC => ?_)
          refine ⟨?_, hC⟩
          clear hC hst
          simp only [beq_iff_eq, beq_eq_false_iff_ne, ne_eq] at *
          first | (subst code; rfl) | (simp [reasonB, lookK, reasonsL, eq_comm, *])
        · skip
          refine J.seq ?_
          refine J.region ?_
          refine J.rd (Rd.bin' rfl rfl rfl (fun _ => rfl)) rfl rfl ?_
          refine J.rd (Rd.assign rfl) rfl rfl ?_
          refine J.done ?_
          refine J.thenN ?_
          refine J.cond rfl (fun hb5 => ?_) (fun hb5 => ?_)
          · skip
            refine J.seq ?_
            refine J.region ?_
            refine J.rd (Rd.assign rfl) rfl rfl ?_
            refine J.done ?_
            refine J.thenN ?_
            refine J.ret ?_
            refine J.blockR ?_
            refine J.thenR ?_
            refine J.leave1 (.inr rfl) rfl rfl (fun w' hC => ?_)
            refine ⟨?_, hC⟩
            clear hC hst
            simp only [beq_iff_eq, beq_eq_false_iff_ne, ne_eq] at *
            first | (subst code; rfl) | (simp [reasonB, lookK, reasonsL, eq_comm, *])
          · skip
            refine J.seq ?_
            refine J.region ?_
            refine J.rd (Rd.bin' rfl rfl rfl (fun _ => rfl)) rfl rfl ?_
            refine J.rd (Rd.assign rfl) rfl rfl ?_
            refine J.done ?_
            refine J.thenN ?_
            refine J.cond rfl (fun hb6 => ?_) (fun hb6 => ?_)
            · skip
              refine J.seq ?_
              refine J.region ?_
              refine J.rd (Rd.assign rfl) rfl rfl ?_
              refine J.done ?_
              refine J.thenN ?_
              refine J.ret ?_
              refine J.blockR ?_
              refine J.thenR ?_
              refine J.leave1 (.inr rfl) rfl rfl (fun w' hC => ?_)
              refine ⟨?_, hC⟩
              clear hC hst
              simp only [beq_iff_eq, beq_eq_false_iff_ne, ne_eq] at *
              first | (subst code; rfl) | (simp [reasonB, lookK, reasonsL, eq_comm, *])
            · skip
              refine J.seq ?_
              refine J.region ?_
              refine J.rd (Rd.bin' rfl rfl rfl (fun _ => rfl)) rfl rfl ?_
              refine J.rd (Rd.assign rfl) rfl rfl ?_
              refine J.done ?_
              refine J.thenN ?_
              refine J.cond rfl (fun hb7 => ?_) (fun hb7 => ?_)
              · skip
                refine J.seq ?_
                refine J.region ?_
                refine J.rd (Rd.assign rfl) rfl rfl ?_
                refine J.done ?_
                refine J.thenN ?_
                refine J.ret ?_
                refine J.blockR ?_
                refine J.thenR ?_
                refine J.leave1 (.inr rfl) rfl rfl (fun w' hC => ?_)
                refine ⟨?_, hC⟩
                clear hC hst
                simp only [beq_iff_eq, beq_eq_false_iff_ne, ne_eq] at *
                first | (subst code; rfl) | (simp [reasonB, lookK, reasonsL, eq_comm, *])
              · skip
                refine J.seq ?_
                refine J.region ?_
                refine J.rd (Rd.bin' rfl rfl rfl (fun _ => rfl)) rfl rfl ?_
                refine J.rd (Rd.assign rfl) rfl rfl ?_
                refine J.done ?_
                refine J.thenN ?_
                refine J.cond rfl (fun hb8 => ?_) (fun hb8 => ?_)
                · skip
                  refine J.seq ?_
                  refine J.region ?_
                  refine J.rd (Rd.assign rfl) rfl rfl ?_
                  refine J.done ?_
                  refine J.thenN ?_
                  refine J.ret ?_
                  refine J.blockR ?_
                  refine J.thenR ?_
                  refine J.leave1 (.inr rfl) rfl rfl (fun w' hC => ?_)
                  refine ⟨?_, hC⟩
                  clear hC hst
                  simp only [beq_iff_eq, beq_eq_false_iff_ne, ne_eq] at *
                  first | (subst code; rfl) | (simp [reasonB, lookK, reasonsL, eq_comm, *])
                · skip
                  refine J.skip ?_
                  refine J.blockN ?_
                  refine J.thenN ?_
                  refine J.seq ?_
                  refine J.region ?_
                  refine J.rd (Rd.assign rfl) rfl rfl ?_
                  refine J.done ?_
                  refine J.thenN ?_
                  refine J.ret ?_
                  refine J.leave1 (.inr rfl) rfl rfl (fun w' hC => ?_)
                  refine ⟨?_, hC⟩
                  clear hC hst
                  simp only [beq_iff_eq, beq_eq_false_iff_ne, ne_eq] at *
                  first | (subst code; rfl) | (simp [reasonB, lookK, reasonsL, eq_comm, *])

theorem ReplyCodes_calls {Z w : World} {Lf : List HP} (n : Int) (hT : ∀ w, St Z w Lf → Lib.Utf8Tabs 1 2 w) (hP : ∀ w, St Z w Lf → Lib.TabIs Tryd.prog w "internal/strconv.uint64pow10" .u64 Lib.pow10Tab) (hst : St Z w Lf) : Calls Tryd.prog 3 #[.int .i64 n] w (Ret fun r w' => r = .bool true ∧ St Z w' Lf) := by
  refine J.enter (N := 30) (l := [.int .i64 n]) (C := Sto Z Lf) Tryd.func3 rfl Tryd.ntmps3 (by simp) (hst) ?_
  refine J.seq ?_
  refine J.region ?_
  refine J.rd (Rd.assign rfl) rfl rfl ?_
  refine J.done ?_
  refine J.thenN ?_
  refine J.seq ?_
  refine J.seq ?_
  refine J.region ?_
  refine J.call can13 rfl (fun w hC => lives_calls hT hP hC) rfl rfl (fun v4 => ?_)
  refine J.andC fun hv4 => ?_
  subst hv4
  refine J.rd (Rd.un rfl (fun _ => rfl)) rfl rfl ?_
  refine J.done ?_
  refine J.thenN ?_
  refine J.cond rfl (fun hb1 => ?_) (fun hb1 => ?_)
  · skip
    cases hb1
  · skip
    refine J.skip ?_
    refine J.thenN ?_
    refine J.seq ?_
    refine J.region ?_
    refine J.rd (Rd.assign rfl) rfl rfl ?_
    refine J.done ?_
    refine J.thenN ?_
    refine J.seq ?_
    refine J.seq ?_
    refine J.region ?_
    refine J.rd (Rd.move rfl) rfl rfl ?_
    refine J.done ?_
    refine J.thenN ?_
    refine J.block ?_
    refine J.seq ?_
    refine J.region ?_
    refine J.rd (Rd.bin' rfl rfl rfl (fun _ => rfl)) rfl rfl ?_
    refine J.rd (Rd.assign rfl) rfl rfl ?_
    refine J.done ?_
    refine J.thenN ?_
    refine J.cond rfl (fun hb2 => ?_) (fun hb2 => ?_)
    · skip
      refine J.region ?_
      refine J.rd (Rd.assign rfl) rfl rfl ?_
      refine J.done ?_
      refine J.blockN ?_
      refine J.thenN ?_
      refine J.seq ?_
      refine J.region ?_
      refine J.rd (Rd.move rfl) rfl rfl ?_
      refine J.call can14 rfl (fun w hC => Code_calls n hC) rfl rfl (fun v22 => ?_)
      refine J.andC fun hv22 => ?_
      subst hv22
      refine J.rd (Rd.move rfl) rfl rfl ?_
      refine J.rd (Rd.bin' rfl rfl rfl (fun _ => rfl)) rfl rfl ?_
      refine J.rd (Rd.move rfl) rfl rfl ?_
      refine J.bcase (fun hb3 => ?_) (fun hb3 => ?_)
      · skip
        refine J.rd (Rd.move rfl) rfl rfl ?_
        refine J.call can15 rfl (fun w hC => words_calls _ hC) rfl rfl (fun v27 => ?_)
        refine J.andC fun hv27 => ?_
        subst hv27
        refine J.rd (Rd.bin' rfl rfl rfl (fun _ => rfl)) rfl rfl ?_
        refine J.rd (Rd.pickT rfl rfl) rfl rfl ?_
        refine J.rd (Rd.assign rfl) rfl rfl ?_
        refine J.done ?_
        refine J.thenN ?_
        refine J.ret ?_
        refine J.leave1 (.inr rfl) rfl rfl (fun w' hC => ?_)
        refine ⟨?_, hC⟩
        clear hC hst hT hP
        first | (simp [ByteArray.toList_eq, reasonB, reasonsL, lookK]; done) | (exfalso; simp_all [codeF])
      · skip
        refine J.pass rfl rfl ?_
        refine J.pass rfl rfl ?_
        refine J.pass rfl rfl ?_
        refine J.rd (Rd.pickF rfl rfl) rfl rfl ?_
        refine J.rd (Rd.assign rfl) rfl rfl ?_
        refine J.done ?_
        refine J.thenN ?_
        refine J.ret ?_
        refine J.leave1 (.inr rfl) rfl rfl (fun w' hC => ?_)
        refine ⟨?_, hC⟩
        clear hC hst hT hP
        first | (simp [ByteArray.toList_eq, reasonB, reasonsL, lookK]; done) | (exfalso; simp_all [codeF])
    · skip
      refine J.seq ?_
      refine J.region ?_
      refine J.rd (Rd.bin' rfl rfl rfl (fun _ => rfl)) rfl rfl ?_
      refine J.rd (Rd.assign rfl) rfl rfl ?_
      refine J.done ?_
      refine J.thenN ?_
      refine J.cond rfl (fun hb4 => ?_) (fun hb4 => ?_)
      · skip
        refine J.region ?_
        refine J.rd (Rd.assign rfl) rfl rfl ?_
        refine J.done ?_
        refine J.blockN ?_
        refine J.thenN ?_
        refine J.seq ?_
        refine J.region ?_
        refine J.rd (Rd.move rfl) rfl rfl ?_
        refine J.call can14 rfl (fun w hC => Code_calls n hC) rfl rfl (fun v22 => ?_)
        refine J.andC fun hv22 => ?_
        subst hv22
        refine J.rd (Rd.move rfl) rfl rfl ?_
        refine J.rd (Rd.bin' rfl rfl rfl (fun _ => rfl)) rfl rfl ?_
        refine J.rd (Rd.move rfl) rfl rfl ?_
        refine J.bcase (fun hb5 => ?_) (fun hb5 => ?_)
        · skip
          refine J.rd (Rd.move rfl) rfl rfl ?_
          refine J.call can15 rfl (fun w hC => words_calls _ hC) rfl rfl (fun v27 => ?_)
          refine J.andC fun hv27 => ?_
          subst hv27
          refine J.rd (Rd.bin' rfl rfl rfl (fun _ => rfl)) rfl rfl ?_
          refine J.rd (Rd.pickT rfl rfl) rfl rfl ?_
          refine J.rd (Rd.assign rfl) rfl rfl ?_
          refine J.done ?_
          refine J.thenN ?_
          refine J.ret ?_
          refine J.leave1 (.inr rfl) rfl rfl (fun w' hC => ?_)
          refine ⟨?_, hC⟩
          clear hC hst hT hP
          first | (simp [ByteArray.toList_eq, reasonB, reasonsL, lookK]; done) | (exfalso; simp_all [codeF])
        · skip
          refine J.pass rfl rfl ?_
          refine J.pass rfl rfl ?_
          refine J.pass rfl rfl ?_
          refine J.rd (Rd.pickF rfl rfl) rfl rfl ?_
          refine J.rd (Rd.assign rfl) rfl rfl ?_
          refine J.done ?_
          refine J.thenN ?_
          refine J.ret ?_
          refine J.leave1 (.inr rfl) rfl rfl (fun w' hC => ?_)
          refine ⟨?_, hC⟩
          clear hC hst hT hP
          first | (simp [ByteArray.toList_eq, reasonB, reasonsL, lookK]; done) | (exfalso; simp_all [codeF])
      · skip
        refine J.seq ?_
        refine J.region ?_
        refine J.rd (Rd.bin' rfl rfl rfl (fun _ => rfl)) rfl rfl ?_
        refine J.rd (Rd.assign rfl) rfl rfl ?_
        refine J.done ?_
        refine J.thenN ?_
        refine J.cond rfl (fun hb6 => ?_) (fun hb6 => ?_)
        · skip
          refine J.region ?_
          refine J.rd (Rd.assign rfl) rfl rfl ?_
          refine J.done ?_
          refine J.blockN ?_
          refine J.thenN ?_
          refine J.seq ?_
          refine J.region ?_
          refine J.rd (Rd.move rfl) rfl rfl ?_
          refine J.call can14 rfl (fun w hC => Code_calls n hC) rfl rfl (fun v22 => ?_)
          refine J.andC fun hv22 => ?_
          subst hv22
          refine J.rd (Rd.move rfl) rfl rfl ?_
          refine J.rd (Rd.bin' rfl rfl rfl (fun _ => rfl)) rfl rfl ?_
          refine J.rd (Rd.move rfl) rfl rfl ?_
          refine J.bcase (fun hb7 => ?_) (fun hb7 => ?_)
          · skip
            refine J.rd (Rd.move rfl) rfl rfl ?_
            refine J.call can15 rfl (fun w hC => words_calls _ hC) rfl rfl (fun v27 => ?_)
            refine J.andC fun hv27 => ?_
            subst hv27
            refine J.rd (Rd.bin' rfl rfl rfl (fun _ => rfl)) rfl rfl ?_
            refine J.rd (Rd.pickT rfl rfl) rfl rfl ?_
            refine J.rd (Rd.assign rfl) rfl rfl ?_
            refine J.done ?_
            refine J.thenN ?_
            refine J.ret ?_
            refine J.leave1 (.inr rfl) rfl rfl (fun w' hC => ?_)
            refine ⟨?_, hC⟩
            clear hC hst hT hP
            first | (simp [ByteArray.toList_eq, reasonB, reasonsL, lookK]; done) | (exfalso; simp_all [codeF])
          · skip
            refine J.pass rfl rfl ?_
            refine J.pass rfl rfl ?_
            refine J.pass rfl rfl ?_
            refine J.rd (Rd.pickF rfl rfl) rfl rfl ?_
            refine J.rd (Rd.assign rfl) rfl rfl ?_
            refine J.done ?_
            refine J.thenN ?_
            refine J.ret ?_
            refine J.leave1 (.inr rfl) rfl rfl (fun w' hC => ?_)
            refine ⟨?_, hC⟩
            clear hC hst hT hP
            first | (simp [ByteArray.toList_eq, reasonB, reasonsL, lookK]; done) | (exfalso; simp_all [codeF])
        · skip
          refine J.seq ?_
          refine J.region ?_
          refine J.rd (Rd.bin' rfl rfl rfl (fun _ => rfl)) rfl rfl ?_
          refine J.rd (Rd.assign rfl) rfl rfl ?_
          refine J.done ?_
          refine J.thenN ?_
          refine J.cond rfl (fun hb8 => ?_) (fun hb8 => ?_)
          · skip
            refine J.region ?_
            refine J.rd (Rd.assign rfl) rfl rfl ?_
            refine J.done ?_
            refine J.blockN ?_
            refine J.thenN ?_
            refine J.seq ?_
            refine J.region ?_
            refine J.rd (Rd.move rfl) rfl rfl ?_
            refine J.call can14 rfl (fun w hC => Code_calls n hC) rfl rfl (fun v22 => ?_)
            refine J.andC fun hv22 => ?_
            subst hv22
            refine J.rd (Rd.move rfl) rfl rfl ?_
            refine J.rd (Rd.bin' rfl rfl rfl (fun _ => rfl)) rfl rfl ?_
            refine J.rd (Rd.move rfl) rfl rfl ?_
            refine J.bcase (fun hb9 => ?_) (fun hb9 => ?_)
            · skip
              refine J.rd (Rd.move rfl) rfl rfl ?_
              refine J.call can15 rfl (fun w hC => words_calls _ hC) rfl rfl (fun v27 => ?_)
              refine J.andC fun hv27 => ?_
              subst hv27
              refine J.rd (Rd.bin' rfl rfl rfl (fun _ => rfl)) rfl rfl ?_
              refine J.rd (Rd.pickT rfl rfl) rfl rfl ?_
              refine J.rd (Rd.assign rfl) rfl rfl ?_
              refine J.done ?_
              refine J.thenN ?_
              refine J.ret ?_
              refine J.leave1 (.inr rfl) rfl rfl (fun w' hC => ?_)
              refine ⟨?_, hC⟩
              clear hC hst hT hP
              first | (simp [ByteArray.toList_eq, reasonB, reasonsL, lookK]; done) | (exfalso; simp_all [codeF])
            · skip
              refine J.pass rfl rfl ?_
              refine J.pass rfl rfl ?_
              refine J.pass rfl rfl ?_
              refine J.rd (Rd.pickF rfl rfl) rfl rfl ?_
              refine J.rd (Rd.assign rfl) rfl rfl ?_
              refine J.done ?_
              refine J.thenN ?_
              refine J.ret ?_
              refine J.leave1 (.inr rfl) rfl rfl (fun w' hC => ?_)
              refine ⟨?_, hC⟩
              clear hC hst hT hP
              first | (simp [ByteArray.toList_eq, reasonB, reasonsL, lookK]; done) | (exfalso; simp_all [codeF])
          · skip
            refine J.seq ?_
            refine J.region ?_
            refine J.rd (Rd.bin' rfl rfl rfl (fun _ => rfl)) rfl rfl ?_
            refine J.rd (Rd.assign rfl) rfl rfl ?_
            refine J.done ?_
            refine J.thenN ?_
            refine J.cond rfl (fun hb10 => ?_) (fun hb10 => ?_)
            · skip
              refine J.region ?_
              refine J.rd (Rd.assign rfl) rfl rfl ?_
              refine J.done ?_
              refine J.blockN ?_
              refine J.thenN ?_
              refine J.seq ?_
              refine J.region ?_
              refine J.rd (Rd.move rfl) rfl rfl ?_
              refine J.call can14 rfl (fun w hC => Code_calls n hC) rfl rfl (fun v22 => ?_)
              refine J.andC fun hv22 => ?_
              subst hv22
              refine J.rd (Rd.move rfl) rfl rfl ?_
              refine J.rd (Rd.bin' rfl rfl rfl (fun _ => rfl)) rfl rfl ?_
              refine J.rd (Rd.move rfl) rfl rfl ?_
              refine J.bcase (fun hb11 => ?_) (fun hb11 => ?_)
              · skip
                refine J.rd (Rd.move rfl) rfl rfl ?_
                refine J.call can15 rfl (fun w hC => words_calls _ hC) rfl rfl (fun v27 => ?_)
                refine J.andC fun hv27 => ?_
                subst hv27
                refine J.rd (Rd.bin' rfl rfl rfl (fun _ => rfl)) rfl rfl ?_
                refine J.rd (Rd.pickT rfl rfl) rfl rfl ?_
                refine J.rd (Rd.assign rfl) rfl rfl ?_
                refine J.done ?_
                refine J.thenN ?_
                refine J.ret ?_
                refine J.leave1 (.inr rfl) rfl rfl (fun w' hC => ?_)
                refine ⟨?_, hC⟩
                clear hC hst hT hP
                first | (simp [ByteArray.toList_eq, reasonB, reasonsL, lookK]; done) | (exfalso; simp_all [codeF])
              · skip
                refine J.pass rfl rfl ?_
                refine J.pass rfl rfl ?_
                refine J.pass rfl rfl ?_
                refine J.rd (Rd.pickF rfl rfl) rfl rfl ?_
                refine J.rd (Rd.assign rfl) rfl rfl ?_
                refine J.done ?_
                refine J.thenN ?_
                refine J.ret ?_
                refine J.leave1 (.inr rfl) rfl rfl (fun w' hC => ?_)
                refine ⟨?_, hC⟩
                clear hC hst hT hP
                first | (simp [ByteArray.toList_eq, reasonB, reasonsL, lookK]; done) | (exfalso; simp_all [codeF])
            · skip
              refine J.seq ?_
              refine J.region ?_
              refine J.rd (Rd.bin' rfl rfl rfl (fun _ => rfl)) rfl rfl ?_
              refine J.rd (Rd.assign rfl) rfl rfl ?_
              refine J.done ?_
              refine J.thenN ?_
              refine J.cond rfl (fun hb12 => ?_) (fun hb12 => ?_)
              · skip
                refine J.region ?_
                refine J.rd (Rd.assign rfl) rfl rfl ?_
                refine J.done ?_
                refine J.blockN ?_
                refine J.thenN ?_
                refine J.seq ?_
                refine J.region ?_
                refine J.rd (Rd.move rfl) rfl rfl ?_
                refine J.call can14 rfl (fun w hC => Code_calls n hC) rfl rfl (fun v22 => ?_)
                refine J.andC fun hv22 => ?_
                subst hv22
                refine J.rd (Rd.move rfl) rfl rfl ?_
                refine J.rd (Rd.bin' rfl rfl rfl (fun _ => rfl)) rfl rfl ?_
                refine J.rd (Rd.move rfl) rfl rfl ?_
                refine J.bcase (fun hb13 => ?_) (fun hb13 => ?_)
                · skip
                  refine J.rd (Rd.move rfl) rfl rfl ?_
                  refine J.call can15 rfl (fun w hC => words_calls _ hC) rfl rfl (fun v27 => ?_)
                  refine J.andC fun hv27 => ?_
                  subst hv27
                  refine J.rd (Rd.bin' rfl rfl rfl (fun _ => rfl)) rfl rfl ?_
                  refine J.rd (Rd.pickT rfl rfl) rfl rfl ?_
                  refine J.rd (Rd.assign rfl) rfl rfl ?_
                  refine J.done ?_
                  refine J.thenN ?_
                  refine J.ret ?_
                  refine J.leave1 (.inr rfl) rfl rfl (fun w' hC => ?_)
                  refine ⟨?_, hC⟩
                  clear hC hst hT hP
                  first | (simp [ByteArray.toList_eq, reasonB, reasonsL, lookK]; done) | (exfalso; simp_all [codeF])
                · skip
                  refine J.pass rfl rfl ?_
                  refine J.pass rfl rfl ?_
                  refine J.pass rfl rfl ?_
                  refine J.rd (Rd.pickF rfl rfl) rfl rfl ?_
                  refine J.rd (Rd.assign rfl) rfl rfl ?_
                  refine J.done ?_
                  refine J.thenN ?_
                  refine J.ret ?_
                  refine J.leave1 (.inr rfl) rfl rfl (fun w' hC => ?_)
                  refine ⟨?_, hC⟩
                  clear hC hst hT hP
                  first | (simp [ByteArray.toList_eq, reasonB, reasonsL, lookK]; done) | (exfalso; simp_all [codeF])
              · skip
                refine J.seq ?_
                refine J.region ?_
                refine J.rd (Rd.bin' rfl rfl rfl (fun _ => rfl)) rfl rfl ?_
                refine J.rd (Rd.assign rfl) rfl rfl ?_
                refine J.done ?_
                refine J.thenN ?_
                refine J.cond rfl (fun hb14 => ?_) (fun hb14 => ?_)
                · skip
                  refine J.region ?_
                  refine J.rd (Rd.assign rfl) rfl rfl ?_
                  refine J.done ?_
                  refine J.blockN ?_
                  refine J.thenN ?_
                  refine J.seq ?_
                  refine J.region ?_
                  refine J.rd (Rd.move rfl) rfl rfl ?_
                  refine J.call can14 rfl (fun w hC => Code_calls n hC) rfl rfl (fun v22 => ?_)
                  refine J.andC fun hv22 => ?_
                  subst hv22
                  refine J.rd (Rd.move rfl) rfl rfl ?_
                  refine J.rd (Rd.bin' rfl rfl rfl (fun _ => rfl)) rfl rfl ?_
                  refine J.rd (Rd.move rfl) rfl rfl ?_
                  refine J.bcase (fun hb15 => ?_) (fun hb15 => ?_)
                  · skip
                    refine J.rd (Rd.move rfl) rfl rfl ?_
                    refine J.call can15 rfl (fun w hC => words_calls _ hC) rfl rfl (fun v27 => ?_)
                    refine J.andC fun hv27 => ?_
                    subst hv27
                    refine J.rd (Rd.bin' rfl rfl rfl (fun _ => rfl)) rfl rfl ?_
                    refine J.rd (Rd.pickT rfl rfl) rfl rfl ?_
                    refine J.rd (Rd.assign rfl) rfl rfl ?_
                    refine J.done ?_
                    refine J.thenN ?_
                    refine J.ret ?_
                    refine J.leave1 (.inr rfl) rfl rfl (fun w' hC => ?_)
                    refine ⟨?_, hC⟩
                    clear hC hst hT hP
                    first | (simp [ByteArray.toList_eq, reasonB, reasonsL, lookK]; done) | (exfalso; simp_all [codeF])
                  · skip
                    refine J.pass rfl rfl ?_
                    refine J.pass rfl rfl ?_
                    refine J.pass rfl rfl ?_
                    refine J.rd (Rd.pickF rfl rfl) rfl rfl ?_
                    refine J.rd (Rd.assign rfl) rfl rfl ?_
                    refine J.done ?_
                    refine J.thenN ?_
                    refine J.ret ?_
                    refine J.leave1 (.inr rfl) rfl rfl (fun w' hC => ?_)
                    refine ⟨?_, hC⟩
                    clear hC hst hT hP
                    first | (simp [ByteArray.toList_eq, reasonB, reasonsL, lookK]; done) | (exfalso; simp_all [codeF])
                · skip
                  refine J.skip ?_
                  refine J.blockN ?_
                  refine J.thenN ?_
                  refine J.seq ?_
                  refine J.region ?_
                  refine J.rd (Rd.move rfl) rfl rfl ?_
                  refine J.call can14 rfl (fun w hC => Code_calls n hC) rfl rfl (fun v22 => ?_)
                  refine J.andC fun hv22 => ?_
                  subst hv22
                  refine J.rd (Rd.move rfl) rfl rfl ?_
                  refine J.rd (Rd.bin' rfl rfl rfl (fun _ => rfl)) rfl rfl ?_
                  refine J.rd (Rd.move rfl) rfl rfl ?_
                  refine J.bcase (fun hb16 => ?_) (fun hb16 => ?_)
                  · skip
                    refine J.rd (Rd.move rfl) rfl rfl ?_
                    refine J.call can15 rfl (fun w hC => words_calls _ hC) rfl rfl (fun v27 => ?_)
                    refine J.andC fun hv27 => ?_
                    subst hv27
                    refine J.rd (Rd.bin' rfl rfl rfl (fun _ => rfl)) rfl rfl ?_
                    refine J.rd (Rd.pickT rfl rfl) rfl rfl ?_
                    refine J.rd (Rd.assign rfl) rfl rfl ?_
                    refine J.done ?_
                    refine J.thenN ?_
                    refine J.ret ?_
                    refine J.leave1 (.inr rfl) rfl rfl (fun w' hC => ?_)
                    refine ⟨?_, hC⟩
                    clear hC hst hT hP
                    first | (simp [ByteArray.toList_eq, reasonB, reasonsL, lookK]; done) | (exfalso; simp_all [codeF])
                  · skip
                    refine J.pass rfl rfl ?_
                    refine J.pass rfl rfl ?_
                    refine J.pass rfl rfl ?_
                    refine J.rd (Rd.pickF rfl rfl) rfl rfl ?_
                    refine J.rd (Rd.assign rfl) rfl rfl ?_
                    refine J.done ?_
                    refine J.thenN ?_
                    refine J.ret ?_
                    refine J.leave1 (.inr rfl) rfl rfl (fun w' hC => ?_)
                    refine ⟨?_, hC⟩
                    clear hC hst hT hP
                    first | (simp [ByteArray.toList_eq, reasonB, reasonsL, lookK]; done) | (exfalso; simp_all [codeF])
end Go.Proofs.YtdpfdpmjnifanaaDoor.Rcodes
