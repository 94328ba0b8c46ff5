/- law16's lives, WordSeals. -/
import Derived.Test.YtdpfdpmjnifanaaDoorProg
import Derived.KernelRfl
import Derived.Test.YtdpfdpmjnifanaaDoorRefseal
import Derived.Test.YtdpfdpmjnifanaaDoorName
import Derived.Test.YtdpfdpmjnifanaaDoorTitle
namespace Go.Proofs.YtdpfdpmjnifanaaDoor.Wseals
open Go Go.RowKit Go.Sb
set_option maxRecDepth 100000
set_option linter.unusedVariables false
set_option linter.unusedSimpArgs false
theorem mixed : Tryd.prog.follows .mixedOrders = true := by kernel_rfl
theorem ti5 : TI Tryd.prog 5 1 1 (.int .u8 0) := TI.of (by kernel_rfl)
theorem can16 : Callable Tryd.prog 16 := ⟨Tryd.f16, Tryd.func16, by kernel_rfl, by kernel_rfl⟩
theorem can17 : Callable Tryd.prog 17 := ⟨Tryd.f17, Tryd.func17, by kernel_rfl, by kernel_rfl⟩
theorem can18 : Callable Tryd.prog 18 := ⟨Tryd.f18, Tryd.func18, by kernel_rfl, by kernel_rfl⟩
theorem can19 : Callable Tryd.prog 19 := ⟨Tryd.f19, Tryd.func19, by kernel_rfl, by kernel_rfl⟩
theorem can20 : Callable Tryd.prog 20 := ⟨Tryd.f20, Tryd.func20, by kernel_rfl, by kernel_rfl⟩
theorem can47 : Callable Tryd.prog 47 := ⟨Tryd.f47, Tryd.func47, by kernel_rfl, by kernel_rfl⟩
theorem can48 : Callable Tryd.prog 48 := ⟨Tryd.f48, Tryd.func48, by kernel_rfl, by kernel_rfl⟩

theorem itsTitle : titleF (⟨#[73, 116, 39, 115]⟩ : ByteArray).data.toList = [73, 116, 226, 128, 153, 115] := by decide +kernel
theorem abName : Name.nameF (⟨#[97, 45, 66]⟩ : ByteArray).data.toList = true := by decide +kernel
theorem openS (l : List UInt8) : ∃ ok : Bool, decide (enc3 (refDec l) = l) = ok ∧ (openF l).isSome = ok ∧ (openF l).getD [] = if ok then refDec l else [] := by
  refine ⟨_, rfl, ?_, ?_⟩ <;> rw [openF_ref] <;> by_cases h : enc3 (refDec l) = l <;> simp [h]
theorem abcSeal : enc3 [97, 98, 99] = [89, 87, 74, 106] := by decide +kernel

theorem lives_calls {Z w : World} {Lf : List HP} (hT : ∀ w, St Z w Lf → Lib.Utf8Tabs 1 2 w) (hst : St Z w Lf) : Calls Tryd.prog 16 #[] w (Ret fun r w' => r = .bool true ∧ St Z w' Lf) := by
  refine J.enter (N := 18) (l := []) (C := Sto Z Lf) Tryd.func16 rfl Tryd.ntmps16 (by simp) (hst) ?_
  refine J.seq ?_
  refine J.region ?_
  refine J.rd (Rd.assign rfl) rfl rfl ?_
  refine J.done ?_
  refine J.thenN ?_
  refine J.seq ?_
  refine J.region ?_
  refine J.call can47 rfl (fun w hC => Title.Title_calls ⟨#[73, 116, 39, 115]⟩ (fun w hw => hT w (St.sub hw)) (by decide) hC) rfl rfl (fun v1 => ?_)
  refine J.andC fun hv1 => ?_
  subst hv1
  rw [itsTitle]
  refine J.rd (Rd.bin' rfl rfl rfl (fun _ => rfl)) rfl rfl ?_
  refine J.rd (Rd.move rfl) rfl rfl ?_
  refine J.bcase (fun hb1 => ?_) (fun hb1 => ?_)
  · skip
    refine J.litA (xs := [.const (.int .u8 97), .const (.int .u8 98), .const (.int .u8 99)]) ti5 Tryd.underlying27 rfl (by simp [Value.cells]) rfl (by decide) rfl rfl rfl (fun b4 => ?_)
    refine J.convBB Tryd.underlying27 Tryd.underlying5 rfl rfl rfl rfl ?_
    refine J.call can17 rfl (fun w hC => Seal.Seal_calls (l := [97, 98, 99]) (fun w hw => SlR_ro hw) (by decide) hC) rfl rfl (fun v6 => ?_)
    refine J.andC fun hv6 => ?_
    subst hv6
    rw [abcSeal]
    refine J.rd (Rd.bin' rfl rfl rfl (fun _ => rfl)) rfl rfl ?_
    refine J.rd (Rd.pickT rfl rfl) rfl rfl ?_
    refine J.rd (Rd.move rfl) rfl rfl ?_
    refine J.rd (Rd.pickTF rfl rfl rfl) rfl rfl ?_
    refine J.rd (Rd.move rfl) rfl rfl ?_
    refine J.rd (Rd.pickTF rfl rfl rfl) rfl rfl ?_
    refine J.rd (Rd.move rfl) rfl rfl ?_
    refine J.rd (Rd.pickTF rfl rfl rfl) rfl rfl ?_
    refine J.rd (Rd.move rfl) rfl rfl ?_
    refine J.bcase (fun hb2 => ?_) (fun hb2 => ?_)
    · skip
      refine J.call can48 rfl (fun w hC => Name.Name_calls _ hC) rfl rfl (fun v16 => ?_)
      refine J.andC fun hv16 => ?_
      subst hv16
      rw [abName]
      refine J.rd (Rd.pickT rfl rfl) rfl rfl ?_
      refine J.rd (Rd.assign rfl) rfl rfl ?_
      refine J.done ?_
      refine J.thenN ?_
      refine J.ret ?_
      refine J.leave1 (.inr rfl) rfl rfl (fun w' hC => ?_)
      exact ⟨rfl, St.sub hC⟩
    · skip
      rw [str_eq2] at hb2; simp at hb2
  · skip
    rw [str_eq2] at hb1; simp at hb1

theorem WordSeals_calls {Z w : World} {Lf : List HP} {v : Value} {b : List UInt8} (s : ByteArray) (hT : ∀ w, St Z w Lf → Lib.Utf8Tabs 1 2 w) (hr : ∀ w, St Z w Lf → SlR w v (bytesV b)) (hst : St Z w Lf) : Calls Tryd.prog 4 #[v, .string s] w (Ret fun r w' => r = .bool true ∧ St Z w' Lf) := by
  refine J.enter (N := 84) (l := [v, .string s]) (C := Sto Z Lf) Tryd.func4 rfl Tryd.ntmps4 (by simp) (hst) ?_
  have hsl : s.data.toList.length = s.size := by simp
  obtain ⟨ok, hk1, hk2, hk3⟩ := openS s.data.toList
  refine J.seq ?_
  refine J.region ?_
  refine J.rd (Rd.assign rfl) rfl rfl ?_
  refine J.done ?_
  refine J.thenN ?_
  refine J.seq ?_
  refine J.seq ?_
  refine J.region ?_
  refine J.call can16 rfl (fun w hC => lives_calls hT hC) rfl rfl (fun v12 => ?_)
  refine J.andC fun hv12 => ?_
  subst hv12
  refine J.rd (Rd.un rfl (fun _ => rfl)) rfl rfl ?_
  refine J.rd (Rd.move rfl) rfl rfl ?_
  refine J.bcase (fun hb1 => ?_) (fun hb1 => ?_)
  · skip
    cases hb1
  · skip
    refine J.rd (Rd.move rfl) rfl rfl ?_
    refine J.rd (Rd.lenR Tryd.underlying27 rfl (fun w hw => hr w (St.sub hw)) rfl) rfl rfl ?_
    refine J.rd (Rd.bin' rfl rfl rfl (fun _ => rfl)) rfl rfl ?_
    refine J.rd (Rd.pickF rfl rfl) rfl rfl ?_
    refine J.rd (Rd.move rfl) rfl rfl ?_
    refine J.bcase (fun hb2 => ?_) (fun hb2 => ?_)
    · skip
      refine J.pass rfl rfl ?_
      refine J.pass rfl rfl ?_
      refine J.pass rfl rfl ?_
      refine J.rd (Rd.pickT rfl rfl) rfl rfl ?_
      refine J.done ?_
      refine J.thenN ?_
      refine J.condT rfl ?_
      refine J.seq ?_
      refine J.region ?_
      refine J.call can16 rfl (fun w hC => lives_calls hT hC) rfl rfl (fun v24 => ?_)
      refine J.andC fun hv24 => ?_
      subst hv24
      refine J.rd (Rd.assign rfl) rfl rfl ?_
      refine J.done ?_
      refine J.thenN ?_
      refine J.ret ?_
      refine J.thenR ?_
      refine J.leave1 (.inr rfl) rfl rfl (fun w' hC => ?_)
      refine ⟨?_, St.sub hC⟩
      first
      | rfl
      | exact congrArg Value.bool (by rw [str_eq2]; simp)
    · skip
      refine J.rd (Rd.move rfl) rfl rfl ?_
      refine J.rd (Rd.lenStr rfl rfl Tryd.underlying9) rfl rfl ?_
      refine J.rd (Rd.bin' rfl rfl rfl (fun _ => rfl)) rfl rfl ?_
      refine J.rd (Rd.pickF rfl rfl) rfl rfl ?_
      refine J.done ?_
      refine J.thenN ?_
      refine J.cond rfl (fun hb3 => ?_) (fun hb3 => ?_)
      · skip
        refine J.seq ?_
        refine J.region ?_
        refine J.call can16 rfl (fun w hC => lives_calls hT hC) rfl rfl (fun v24 => ?_)
        refine J.andC fun hv24 => ?_
        subst hv24
        refine J.rd (Rd.assign rfl) rfl rfl ?_
        refine J.done ?_
        refine J.thenN ?_
        refine J.ret ?_
        refine J.thenR ?_
        refine J.leave1 (.inr rfl) rfl rfl (fun w' hC => ?_)
        refine ⟨?_, St.sub hC⟩
        first
        | rfl
        | exact congrArg Value.bool (by rw [str_eq2]; simp)
      · skip
        refine J.skip ?_
        refine J.thenN ?_
        refine J.seq ?_
        have hbl : b.length ≤ 300 := by simp [length_bytesV] at hb2; omega
        have hss : s.size ≤ 200 := by simp at hb3; omega
        refine J.region ?_
        refine J.rd (Rd.move rfl) rfl rfl ?_
        refine J.call can17 rfl (fun w hC => Seal.Seal_calls hr (by omega) hC) rfl rfl (fun v26 => ?_)
        refine J.andC fun hv26 => ?_
        subst hv26
        refine J.rd (Rd.assign rfl) rfl rfl ?_
        refine J.done ?_
        refine J.thenN ?_
        refine J.seq ?_
        refine J.region ?_
        refine J.rd (Rd.move rfl) rfl rfl ?_
        refine J.call can18 rfl (fun w hC => Open.Open_calls ⟨(enc3 b).toArray⟩ (by rw [bsize, Seal.enc3_length]; omega) hC) rfl rfl (fun v29 => ?_)
        refine J.exC fun u29 => ?_
        refine J.andC fun hv29 => ?_
        subst hv29
        rw [show openF (⟨(enc3 b).toArray⟩ : ByteArray).data.toList = some b from openF_enc3 b]
        refine J.rd (Rd.move rfl) rfl rfl ?_
        refine J.rd (Rd.extractL rfl) rfl rfl ?_
        refine J.rd (Rd.extractL rfl) rfl rfl ?_
        refine J.rd (Rd.assign rfl) rfl rfl ?_
        refine J.rd (Rd.assign rfl) rfl rfl ?_
        refine J.done ?_
        refine J.thenN ?_
        refine J.seq ?_
        refine J.region ?_
        refine J.rd (Rd.move rfl) rfl rfl ?_
        refine J.call can18 rfl (fun w hC => Open.Open_calls s (by omega) hC) rfl rfl (fun v34 => ?_)
        refine J.exC fun u34 => ?_
        refine J.andC fun hv34 => ?_
        subst hv34
        rw [hk2, hk3]
        refine J.rd (Rd.move rfl) rfl rfl ?_
        refine J.rd (Rd.extractL rfl) rfl rfl ?_
        refine J.rd (Rd.extractL rfl) rfl rfl ?_
        refine J.rd (Rd.assign rfl) rfl rfl ?_
        refine J.rd (Rd.assign rfl) rfl rfl ?_
        refine J.done ?_
        refine J.thenN ?_
        refine J.seq ?_
        refine J.region ?_
        refine J.rd (Rd.move rfl) rfl rfl ?_
        refine J.call can19 rfl (fun w hC => Refseal.ROpen_calls s (by omega) hC) rfl rfl (fun v39 => ?_)
        refine J.exC fun u39 => ?_
        refine J.andC fun hv39 => ?_
        subst hv39
        rw [hk1]
        refine J.rd (Rd.move rfl) rfl rfl ?_
        refine J.rd (Rd.extractL rfl) rfl rfl ?_
        refine J.rd (Rd.extractL rfl) rfl rfl ?_
        refine J.rd (Rd.assign rfl) rfl rfl ?_
        refine J.rd (Rd.assign rfl) rfl rfl ?_
        refine J.done ?_
        refine J.thenN ?_
        refine J.seq ?_
        refine J.seq ?_
        refine J.region ?_
        refine J.rd (Rd.move rfl) rfl rfl ?_
        refine J.rd (Rd.bin' rfl rfl rfl (fun _ => rfl)) rfl rfl ?_
        refine J.rd (Rd.move rfl) rfl rfl ?_
        refine J.rd (Rd.bin' rfl rfl rfl (fun _ => rfl)) rfl rfl ?_
        refine J.rd (Rd.move rfl) rfl rfl ?_
        refine J.bcase (fun hb4 => ?_) (fun hb4 => ?_)
        · skip
          exfalso; cases ok <;> simp at hb4
        · skip
          refine J.rd (Rd.move rfl) rfl rfl ?_
          refine J.rd (Rd.move rfl) rfl rfl ?_
          refine J.bcase (fun hb5 => ?_) (fun hb5 => ?_)
          · skip
            refine J.rd (Rd.move rfl) rfl rfl ?_
            refine J.rd (Rd.convBS Tryd.underlying27 Tryd.underlying9 rfl (fun w hw => SlR_own hw) Tryd.underlying5) rfl rfl ?_
            refine J.rd (Rd.move rfl) rfl rfl ?_
            refine J.rd (Rd.convBS Tryd.underlying27 Tryd.underlying9 rfl (fun w hw => SlR_own hw) Tryd.underlying5) rfl rfl ?_
            refine J.rd (Rd.bin' rfl rfl rfl (fun _ => rfl)) rfl rfl ?_
            refine J.rd (Rd.pickT rfl rfl) rfl rfl ?_
            refine J.rd (Rd.pickF rfl rfl) rfl rfl ?_
            refine J.rd (Rd.move rfl) rfl rfl ?_
            refine J.bcase (fun hb6 => ?_) (fun hb6 => ?_)
            · skip
              exfalso; cases ok
              · simp at hb5
              · rw [if_pos rfl, str_eq2] at hb6; simp at hb6
            · skip
              refine J.rd (Rd.move rfl) rfl rfl ?_
              refine J.rd (Rd.un rfl (fun _ => rfl)) rfl rfl ?_
              refine J.rd (Rd.move rfl) rfl rfl ?_
              refine J.bcase (fun hb7 => ?_) (fun hb7 => ?_)
              · skip
                exfalso; cases ok <;> simp at hb5 hb7
              · skip
                refine J.pass rfl rfl ?_
                refine J.pass rfl rfl ?_
                refine J.pass rfl rfl ?_
                refine J.pass rfl rfl ?_
                refine J.pass rfl rfl ?_
                refine J.pass rfl rfl ?_
                refine J.pass rfl rfl ?_
                refine J.rd (Rd.pickF rfl rfl) rfl rfl ?_
                refine J.rd (Rd.pickF rfl rfl) rfl rfl ?_
                refine J.done ?_
                refine J.thenN ?_
                refine J.condF rfl ?_
                refine J.skip ?_
                refine J.thenN ?_
                refine J.seq ?_
                refine J.region ?_
                refine J.rd (Rd.move rfl) rfl rfl ?_
                refine J.rd (Rd.move rfl) rfl rfl ?_
                refine J.call can20 rfl (fun w hC => Refseal.RSeal_calls (l := b) (fun w hw => hr w (St.sub hw)) (by omega) hC) rfl rfl (fun v71 => ?_)
                refine J.andC fun hv71 => ?_
                subst hv71
                refine J.rd (Rd.bin' rfl rfl rfl (fun _ => rfl)) rfl rfl ?_
                refine J.rd (Rd.move rfl) rfl rfl ?_
                refine J.bcase (fun hb8 => ?_) (fun hb8 => ?_)
                · skip
                  refine J.rd (Rd.move rfl) rfl rfl ?_
                  refine J.rd (Rd.bin' rfl rfl rfl (fun _ => rfl)) rfl rfl ?_
                  refine J.rd (Rd.pickT rfl rfl) rfl rfl ?_
                  refine J.rd (Rd.move rfl) rfl rfl ?_
                  refine J.bcase (fun hb9 => ?_) (fun hb9 => ?_)
                  · skip
                    refine J.rd (Rd.move rfl) rfl rfl ?_
                    refine J.rd (Rd.convBS Tryd.underlying27 Tryd.underlying9 rfl (fun w hw => SlR_own hw) Tryd.underlying5) rfl rfl ?_
                    refine J.rd (Rd.move rfl) rfl rfl ?_
                    refine J.rd (Rd.convBS Tryd.underlying27 Tryd.underlying9 rfl (fun w hw => hr w (St.sub hw)) Tryd.underlying5) rfl rfl ?_
                    refine J.rd (Rd.bin' rfl rfl rfl (fun _ => rfl)) rfl rfl ?_
                    refine J.rd (Rd.pickT rfl rfl) rfl rfl ?_
                    refine J.rd (Rd.assign rfl) rfl rfl ?_
                    refine J.done ?_
                    refine J.thenN ?_
                    refine J.ret ?_
                    refine J.leave1 (.inr rfl) rfl rfl (fun w' hC => ?_)
                    refine ⟨?_, St.sub hC⟩
                    first
                    | rfl
                    | exact congrArg Value.bool (by rw [str_eq2]; simp)
                  · skip
                    simp at hb9
                · skip
                  rw [str_eq2] at hb8; simp at hb8
          · skip
            refine J.pass rfl rfl ?_
            refine J.pass rfl rfl ?_
            refine J.pass rfl rfl ?_
            refine J.pass rfl rfl ?_
            refine J.pass rfl rfl ?_
            refine J.rd (Rd.pickF rfl rfl) rfl rfl ?_
            refine J.rd (Rd.pickF rfl rfl) rfl rfl ?_
            refine J.rd (Rd.move rfl) rfl rfl ?_
            refine J.rd (Rd.move rfl) rfl rfl ?_
            refine J.rd (Rd.un rfl (fun _ => rfl)) rfl rfl ?_
            refine J.rd (Rd.move rfl) rfl rfl ?_
            refine J.bcase (fun hb10 => ?_) (fun hb10 => ?_)
            · skip
              refine J.rd (Rd.move rfl) rfl rfl ?_
              refine J.rd (Rd.bin' rfl rfl rfl (fun _ => rfl)) rfl rfl ?_
              refine J.rd (Rd.move rfl) rfl rfl ?_
              refine J.bcase (fun hb11 => ?_) (fun hb11 => ?_)
              · skip
                exfalso; cases ok <;> simp at hb5 hb11
              · skip
                refine J.rd (Rd.move rfl) rfl rfl ?_
                refine J.rd (Rd.lenOwn rfl rfl Tryd.underlying27) rfl rfl ?_
                refine J.rd (Rd.bin' rfl rfl rfl (fun _ => rfl)) rfl rfl ?_
                refine J.rd (Rd.pickF rfl rfl) rfl rfl ?_
                refine J.rd (Rd.pickT rfl rfl) rfl rfl ?_
                refine J.rd (Rd.pickF rfl rfl) rfl rfl ?_
                refine J.done ?_
                refine J.thenN ?_
                refine J.cond rfl (fun hb12 => ?_) (fun hb12 => ?_)
                · skip
                  exfalso; cases ok
                  · simp at hb12
                  · simp at hb5
                · skip
                  refine J.skip ?_
                  refine J.thenN ?_
                  refine J.seq ?_
                  refine J.region ?_
                  refine J.rd (Rd.move rfl) rfl rfl ?_
                  refine J.rd (Rd.move rfl) rfl rfl ?_
                  refine J.call can20 rfl (fun w hC => Refseal.RSeal_calls (l := b) (fun w hw => hr w (St.sub hw)) (by omega) hC) rfl rfl (fun v71 => ?_)
                  refine J.andC fun hv71 => ?_
                  subst hv71
                  refine J.rd (Rd.bin' rfl rfl rfl (fun _ => rfl)) rfl rfl ?_
                  refine J.rd (Rd.move rfl) rfl rfl ?_
                  refine J.bcase (fun hb13 => ?_) (fun hb13 => ?_)
                  · skip
                    refine J.rd (Rd.move rfl) rfl rfl ?_
                    refine J.rd (Rd.bin' rfl rfl rfl (fun _ => rfl)) rfl rfl ?_
                    refine J.rd (Rd.pickT rfl rfl) rfl rfl ?_
                    refine J.rd (Rd.move rfl) rfl rfl ?_
                    refine J.bcase (fun hb14 => ?_) (fun hb14 => ?_)
                    · skip
                      refine J.rd (Rd.move rfl) rfl rfl ?_
                      refine J.rd (Rd.convBS Tryd.underlying27 Tryd.underlying9 rfl (fun w hw => SlR_own hw) Tryd.underlying5) rfl rfl ?_
                      refine J.rd (Rd.move rfl) rfl rfl ?_
                      refine J.rd (Rd.convBS Tryd.underlying27 Tryd.underlying9 rfl (fun w hw => hr w (St.sub hw)) Tryd.underlying5) rfl rfl ?_
                      refine J.rd (Rd.bin' rfl rfl rfl (fun _ => rfl)) rfl rfl ?_
                      refine J.rd (Rd.pickT rfl rfl) rfl rfl ?_
                      refine J.rd (Rd.assign rfl) rfl rfl ?_
                      refine J.done ?_
                      refine J.thenN ?_
                      refine J.ret ?_
                      refine J.leave1 (.inr rfl) rfl rfl (fun w' hC => ?_)
                      refine ⟨?_, St.sub hC⟩
                      first
                      | rfl
                      | exact congrArg Value.bool (by rw [str_eq2]; simp)
                    · skip
                      simp at hb14
                  · skip
                    rw [str_eq2] at hb13; simp at hb13
            · skip
              exfalso; cases ok <;> simp at hb5 hb10
end Go.Proofs.YtdpfdpmjnifanaaDoor.Wseals
