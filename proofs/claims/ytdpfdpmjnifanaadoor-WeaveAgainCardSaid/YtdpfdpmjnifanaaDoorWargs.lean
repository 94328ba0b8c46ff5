/- weave.Bytes of nothing, law20's lives, WeaveArgs. -/
import Derived.Test.YtdpfdpmjnifanaaDoorProg
import Derived.KernelRfl
import Derived.Test.YtdpfdpmjnifanaaDoorWeave
namespace Go.Proofs.YtdpfdpmjnifanaaDoor.Wargs
open Go Go.RowKit Go.Sb
set_option maxRecDepth 100000
set_option linter.unusedVariables false
set_option linter.unusedSimpArgs false
theorem mixed : Tryd.prog.follows .mixedOrders = true := by kernel_rfl
theorem ti5 : TI Tryd.prog 5 1 1 (.int .u8 0) := TI.of (by kernel_rfl)
theorem can21 : Callable Tryd.prog 21 := ⟨Tryd.f21, Tryd.func21, by kernel_rfl, by kernel_rfl⟩
theorem can23 : Callable Tryd.prog 23 := ⟨Tryd.f23, Tryd.func23, by kernel_rfl, by kernel_rfl⟩
theorem can24 : Callable Tryd.prog 24 := ⟨Tryd.f24, Tryd.func24, by kernel_rfl, by kernel_rfl⟩
theorem can25 : Callable Tryd.prog 25 := ⟨Tryd.f25, Tryd.func25, by kernel_rfl, by kernel_rfl⟩
theorem can27 : Callable Tryd.prog 27 := ⟨Tryd.f27, Tryd.func27, by kernel_rfl, by kernel_rfl⟩
theorem can28 : Callable Tryd.prog 28 := ⟨Tryd.f28, Tryd.func28, by kernel_rfl, by kernel_rfl⟩
theorem can29 : Callable Tryd.prog 29 := ⟨Tryd.f29, Tryd.func29, by kernel_rfl, by kernel_rfl⟩

theorem Bytes_nil {Z w : World} {Lf : List HP} (hst : St Z w Lf) : Calls Tryd.prog 29 #[.slice none 0 0] w (Ret fun r w' => r = .slice none 0 0 ∧ St Z w' Lf) := by
  refine J.enter (N := 25) (l := [.slice none 0 0]) (C := Sto Z Lf) Tryd.func29 rfl Tryd.ntmps29 (by simp) (hst) ?_
  refine J.seq ?_
  refine J.region ?_
  refine J.rd (Rd.assign rfl) rfl rfl ?_
  refine J.done ?_
  refine J.thenN ?_
  refine J.seq ?_
  refine J.region ?_
  refine J.rd (Rd.assign rfl) rfl rfl ?_
  refine J.done ?_
  refine J.thenN ?_
  refine J.seq ?_
  refine J.seq ?_
  refine J.region ?_
  refine J.rd (Rd.move rfl) rfl rfl ?_
  refine J.rd (Rd.lenR Tryd.underlying48 rfl (fun w hw => SlR.nil rfl) rfl) rfl rfl ?_
  refine J.rd (Rd.move rfl) rfl rfl ?_
  refine J.done ?_
  refine J.thenN ?_
  refine J.block ?_
  refine J.loop (σ := Unit) (fun _ => 0) (fun _ => [(3, .slice none 0 0), (9, .int .i64 0), (10, .int .i64 0)]) (fun _ w => St Z w Lf) () (.cons rfl (.cons rfl (.cons rfl .nil))) (fun w hw => hw) ?_
  rintro ⟨⟩
  refine J.seq ?_
  refine J.region ?_
  refine J.rd (Rd.bin' rfl rfl rfl (fun _ => rfl)) rfl rfl ?_
  refine J.done ?_
  refine J.thenN ?_
  refine J.seq ?_
  refine J.cond rfl (fun hb1 => ?_) (fun hb1 => ?_)
  · skip
    simp at hb1
  · skip
    refine J.exit ?_
    refine J.thenE ?_
    refine J.thenE ?_
    refine J.blockE ?_
    refine J.thenN ?_
    refine J.seq ?_
    refine J.region ?_
    refine J.rd (Rd.move rfl) rfl rfl ?_
    refine J.rd (Rd.assign rfl) rfl rfl ?_
    refine J.done ?_
    refine J.thenN ?_
    refine J.ret ?_
    refine J.leave1 (.inr rfl) rfl rfl (fun w' hC => ?_)
    exact ⟨rfl, hC⟩

def aS : ByteArray := ⟨#[97]⟩
def aT : ByteArray := ⟨[97].toArray⟩
def aBlk : List UInt8 := [1, 83, 116, 114, 101, 97, 109, 84, 105, 116, 108, 101, 61, 39, 97, 39, 59]
theorem aTitle : titleF aS.data.toList = [97] := by decide +kernel
theorem aBlock : blockF aT.data.toList = aBlk := by decide +kernel
theorem aRun : wRun 4 aBlk 0 true [1, 2, 3, 4, 5] = ([1, 2, 3, 4] ++ aBlk ++ [5], 1, false) := by decide +kernel

theorem lives_calls {Z w : World} {Lf : List HP} (hT : ∀ w, St Z w Lf → Lib.Utf8Tabs 1 2 w) (hst : St Z w Lf) : Calls Tryd.prog 21 #[] w (Ret fun r w' => r = .bool true ∧ St Z w' Lf) := by
  refine J.enter (N := 20) (l := []) (C := Sto Z Lf) Tryd.func21 rfl Tryd.ntmps21 (by simp) (hst) ?_
  refine J.seq ?_
  refine J.region ?_
  refine J.rd (Rd.assign rfl) rfl rfl ?_
  refine J.done ?_
  refine J.thenN ?_
  refine J.seq ?_
  refine J.region ?_
  refine J.call can23 rfl (fun w hC => Block.New_calls 4 (by omega) (by omega) hC) rfl rfl (fun v4 => ?_)
  refine J.exC fun p => ?_
  refine J.andC fun hv4 => ?_
  subst hv4
  refine J.rd (Rd.move rfl) rfl rfl ?_
  refine J.rd (Rd.extractL rfl) rfl rfl ?_
  refine J.rd (Rd.extractL rfl) rfl rfl ?_
  refine J.rd (Rd.assign rfl) rfl rfl ?_
  refine J.rd (Rd.assign rfl) rfl rfl ?_
  refine J.done ?_
  refine J.thenN ?_
  refine J.seq ?_
  refine J.region ?_
  refine J.rd (Rd.move rfl) rfl rfl ?_
  refine J.call can25 rfl (fun w hC => Block.WTitle_calls aS (fun w hw => hT w (St.sub hw)) (by decide) hC) rfl rfl (fun v8 => ?_)
  rw [aTitle, if_neg (show ¬ ([97] : List UInt8) = ByteArray.empty.data.toList by decide)]
  refine J.done ?_
  refine J.thenN ?_
  refine J.seq ?_
  refine J.region ?_
  refine J.rd (Rd.move rfl) rfl rfl ?_
  refine J.rd (Rd.bin' rfl rfl rfl (fun _ => rfl)) rfl rfl ?_
  refine J.rd (Rd.move rfl) rfl rfl ?_
  refine J.bcase (fun hb1 => ?_) (fun hb1 => ?_)
  · skip
    refine J.rd (Rd.move rfl) rfl rfl ?_
    refine J.litA (xs := [.const (.int .u8 1), .const (.int .u8 2), .const (.int .u8 3), .const (.int .u8 4), .const (.int .u8 5)]) ti5 Tryd.underlying27 rfl (by simp [Value.cells]) rfl (by decide) rfl rfl rfl (fun b13 => ?_)
    refine J.ownRow (n := 5) (b := b13) rfl ?_
    refine J.call can28 rfl (fun w hC => Weave.weave_calls (blk := aBlk) (data := [1, 2, 3, 4, 5]) (fun w hw => hT w (St.sub hw)) (fun w L hT hw => by have h := Block.Block_calls aT hT (by decide) hw; rw [aBlock] at h; exact h) (by decide) (fun w hw => SlR_own hw) (by decide) (by decide) (by decide) (St.pullP p hC)) rfl rfl (fun v14 => ?_)
    rw [aRun]
    refine J.rd (Rd.convBS Tryd.underlying27 Tryd.underlying9 rfl (fun w hw => SlR_own hw) Tryd.underlying5) rfl rfl ?_
    refine J.rd (Rd.bin' rfl rfl rfl (fun _ => rfl)) rfl rfl ?_
    refine J.rd (Rd.pickT rfl rfl) rfl rfl ?_
    refine J.rd (Rd.move rfl) rfl rfl ?_
    refine J.rd (Rd.pickTF rfl rfl rfl) rfl rfl ?_
    refine J.rd (Rd.assign rfl) rfl rfl ?_
    refine J.done ?_
    refine J.thenN ?_
    refine J.ret ?_
    refine J.leave1 (.inr rfl) rfl rfl (fun w' hC => ?_)
    exact ⟨congrArg Value.bool (by rw [ByteArray.toList_eq, ByteArray.toList_eq]; decide +kernel), St.dropO (.slice (some ⟨b13, 0, none⟩) 5 5) (St.dropP p (St.dropO v14 hC))⟩
  · skip
    cases hb1

theorem WeaveArgs_good {Z w : World} {Lf : List HP} {v : Value} {xs : List Value} (n : Int) (h1 : 0 ≤ n) (h2 : n ≤ 65536) (hT : ∀ w, St Z w Lf → Lib.Utf8Tabs 1 2 w) (hv : ∀ w, St Z w Lf → SlR w v xs) (hst : St Z w Lf) : Calls Tryd.prog 6 #[.int .i64 n, v] w (Ret fun r w' => r = .bool true ∧ St Z w' Lf) := by
  refine J.enter (N := 83) (l := [.int .i64 n, v]) (C := Sto Z Lf) Tryd.func6 rfl Tryd.ntmps6 (by simp) (hst) ?_
  refine J.seq ?_
  refine J.region ?_
  refine J.rd (Rd.assign rfl) rfl rfl ?_
  refine J.done ?_
  refine J.thenN ?_
  refine J.seq ?_
  refine J.seq ?_
  refine J.region ?_
  refine J.call can21 rfl (fun w hC => lives_calls hT hC) rfl rfl (fun v14 => ?_)
  refine J.andC fun hv14 => ?_
  subst hv14
  refine J.rd (Rd.un rfl (fun _ => rfl)) rfl rfl ?_
  refine J.rd (Rd.move rfl) rfl rfl ?_
  refine J.bcase (fun hb1 => ?_) (fun hb1 => ?_)
  · skip
    refine J.pass rfl rfl ?_
    refine J.pass rfl rfl ?_
    refine J.pass rfl rfl ?_
    refine J.rd (Rd.pickT rfl rfl) rfl rfl ?_
    refine J.done ?_
    refine J.thenN ?_
    refine J.condT rfl ?_
    refine J.seq ?_
    refine J.region ?_
    refine J.call can21 rfl (fun w hC => lives_calls hT hC) rfl rfl (fun v21 => ?_)
    refine J.andC fun hv21 => ?_
    subst hv21
    refine J.rd (Rd.assign rfl) rfl rfl ?_
    refine J.done ?_
    refine J.thenN ?_
    refine J.ret ?_
    refine J.thenR ?_
    refine J.leave1 (.inr rfl) rfl rfl (fun w' hC => ?_)
    refine ⟨?_, by exact St.sub hC⟩
    clear hC
    first | rfl | (exfalso; simp at *; omega) | (simp at *; done) | (simp at *; omega)
  · skip
    refine J.rd (Rd.move rfl) rfl rfl ?_
    refine J.rd (Rd.lenR Tryd.underlying27 rfl (fun w hw => hv w hw) rfl) rfl rfl ?_
    refine J.rd (Rd.bin' rfl rfl rfl (fun _ => rfl)) rfl rfl ?_
    refine J.rd (Rd.pickF rfl rfl) rfl rfl ?_
    refine J.done ?_
    refine J.thenN ?_
    refine J.cond rfl (fun hb2 => ?_) (fun hb2 => ?_)
    · skip
      refine J.seq ?_
      refine J.region ?_
      refine J.call can21 rfl (fun w hC => lives_calls hT hC) rfl rfl (fun v21 => ?_)
      refine J.andC fun hv21 => ?_
      subst hv21
      refine J.rd (Rd.assign rfl) rfl rfl ?_
      refine J.done ?_
      refine J.thenN ?_
      refine J.ret ?_
      refine J.thenR ?_
      refine J.leave1 (.inr rfl) rfl rfl (fun w' hC => ?_)
      refine ⟨?_, by exact St.sub hC⟩
      clear hC
      first | rfl | (exfalso; simp at *; omega) | (simp at *; done) | (simp at *; omega)
    · skip
      refine J.skip ?_
      refine J.thenN ?_
      refine J.seq ?_
      refine J.region ?_
      refine J.rd (Rd.move rfl) rfl rfl ?_
      refine J.call can23 rfl (fun w hC => Block.New_calls n h1 h2 hC) rfl rfl (fun v24 => ?_)
      refine J.exC fun p24 => ?_
      refine J.andC fun hv24 => ?_
      subst hv24
      refine J.conv (fun _ hw => St.dropP p24 hw) ?_
      refine J.rd (Rd.move rfl) rfl rfl ?_
      refine J.rd (Rd.extractL rfl) rfl rfl ?_
      refine J.rd (Rd.extractL rfl) rfl rfl ?_
      refine J.rd (Rd.assign rfl) rfl rfl ?_
      refine J.rd (Rd.assign rfl) rfl rfl ?_
      refine J.done ?_
      refine J.thenN ?_
      refine J.seq ?_
      refine J.region ?_
      refine J.rd (Rd.move rfl) rfl rfl ?_
      refine J.call can24 rfl (fun w hC => Block.NewParter_calls n h1 h2 hC) rfl rfl (fun v29 => ?_)
      refine J.exC fun p29 => ?_
      refine J.andC fun hv29 => ?_
      subst hv29
      refine J.conv (fun _ hw => St.dropP p29 hw) ?_
      refine J.rd (Rd.move rfl) rfl rfl ?_
      refine J.rd (Rd.extractL rfl) rfl rfl ?_
      refine J.rd (Rd.extractL rfl) rfl rfl ?_
      refine J.rd (Rd.assign rfl) rfl rfl ?_
      refine J.rd (Rd.assign rfl) rfl rfl ?_
      refine J.done ?_
      refine J.thenN ?_
      refine J.seq ?_
      refine J.region ?_
      refine J.rd (Rd.move rfl) rfl rfl ?_
      refine J.rd (Rd.bin' rfl rfl rfl (fun _ => rfl)) rfl rfl ?_
      refine J.rd (Rd.move rfl) rfl rfl ?_
      refine J.bcase (fun hb3 => ?_) (fun hb3 => ?_)
      · skip
        refine J.rd (Rd.move rfl) rfl rfl ?_
        refine J.rd (Rd.bin' rfl rfl rfl (fun _ => rfl)) rfl rfl ?_
        refine J.rd (Rd.pickT rfl rfl) rfl rfl ?_
        refine J.rd (Rd.assign rfl) rfl rfl ?_
        refine J.done ?_
        refine J.thenN ?_
        refine J.seq ?_
        refine J.region ?_
        refine J.rd (Rd.assign rfl) rfl rfl ?_
        refine J.done ?_
        refine J.thenN ?_
        refine J.seq ?_
        refine J.region ?_
        refine J.rd (Rd.assign rfl) rfl rfl ?_
        refine J.done ?_
        refine J.thenN ?_
        refine J.seq ?_
        refine J.region ?_
        refine J.rd (Rd.move rfl) rfl rfl ?_
        refine J.call can25 rfl (fun w hC => Block.WTitle_nil _ hC) rfl rfl (fun v39 => ?_)
        refine J.done ?_
        refine J.thenN ?_
        refine J.seq ?_
        refine J.region ?_
        refine J.rd (Rd.move rfl) rfl rfl ?_
        refine J.rd (Rd.move rfl) rfl rfl ?_
        refine J.call can27 rfl (fun w hC => Block.Part_nil _ hC) rfl rfl (fun v43 => ?_)
        refine J.andC fun hv43 => ?_
        subst hv43
        refine J.rd (Rd.move rfl) rfl rfl ?_
        refine J.rd (Rd.extractL rfl) rfl rfl ?_
        refine J.rd (Rd.extractL rfl) rfl rfl ?_
        refine J.rd (Rd.assign rfl) rfl rfl ?_
        refine J.rd (Rd.assign rfl) rfl rfl ?_
        refine J.done ?_
        refine J.thenN ?_
        refine J.seq ?_
        refine J.region ?_
        refine J.rd (Rd.move rfl) rfl rfl ?_
        refine J.rd (Rd.bin' rfl rfl rfl (fun _ => rfl)) rfl rfl ?_
        refine J.rd (Rd.move rfl) rfl rfl ?_
        refine J.rd (Rd.bin' rfl rfl rfl (fun _ => rfl)) rfl rfl ?_
        refine J.rd (Rd.move rfl) rfl rfl ?_
        refine J.bcase (fun hb4 => ?_) (fun hb4 => ?_)
        · skip
          refine J.rd (Rd.move rfl) rfl rfl ?_
          refine J.rd (Rd.bin' rfl rfl rfl (fun _ => rfl)) rfl rfl ?_
          refine J.rd (Rd.move rfl) rfl rfl ?_
          refine J.rd (Rd.bin' rfl rfl rfl (fun _ => rfl)) rfl rfl ?_
          refine J.rd (Rd.pickT rfl rfl) rfl rfl ?_
          refine J.rd (Rd.move rfl) rfl rfl ?_
          refine J.bcase (fun hb5 => ?_) (fun hb5 => ?_)
          · skip
            refine J.rd (Rd.move rfl) rfl rfl ?_
            refine J.rd (Rd.move rfl) rfl rfl ?_
            refine J.bcase (fun hb6 => ?_) (fun hb6 => ?_)
            · skip
              refine J.pass rfl rfl ?_
              refine J.pass rfl rfl ?_
              refine J.pass rfl rfl ?_
              refine J.pass rfl rfl ?_
              refine J.pass rfl rfl ?_
              refine J.pass rfl rfl ?_
              refine J.rd (Rd.pickT rfl rfl) rfl rfl ?_
              refine J.rd (Rd.pickT rfl rfl) rfl rfl ?_
              refine J.rd (Rd.move rfl) rfl rfl ?_
              refine J.rd (Rd.move rfl) rfl rfl ?_
              refine J.rd (Rd.move rfl) rfl rfl ?_
              refine J.call can28 rfl (fun w hC => Block.Weave_nil _ hC) rfl rfl (fun v70 => ?_)
              refine J.andC fun hv70 => ?_
              subst hv70
              refine J.rd (Rd.lenR Tryd.underlying27 rfl (fun w hw => SlR.nil rfl) rfl) rfl rfl ?_
              refine J.rd (Rd.bin' rfl rfl rfl (fun _ => rfl)) rfl rfl ?_
              refine J.rd (Rd.pickT rfl rfl) rfl rfl ?_
              refine J.rd (Rd.move rfl) rfl rfl ?_
              refine J.bcase (fun hb7 => ?_) (fun hb7 => ?_)
              · skip
                refine J.rd (Rd.move rfl) rfl rfl ?_
                refine J.rd (Rd.bin' rfl rfl rfl (fun _ => rfl)) rfl rfl ?_
                refine J.rd (Rd.pickT rfl rfl) rfl rfl ?_
                refine J.rd (Rd.move rfl) rfl rfl ?_
                refine J.bcase (fun hb8 => ?_) (fun hb8 => ?_)
                · skip
                  refine J.call can29 rfl (fun w hC => Bytes_nil hC) rfl rfl (fun v79 => ?_)
                  refine J.andC fun hv79 => ?_
                  subst hv79
                  refine J.rd (Rd.lenR Tryd.underlying27 rfl (fun w hw => SlR.nil rfl) rfl) rfl rfl ?_
                  refine J.rd (Rd.bin' rfl rfl rfl (fun _ => rfl)) rfl rfl ?_
                  refine J.rd (Rd.pickT rfl rfl) rfl rfl ?_
                  refine J.rd (Rd.assign rfl) rfl rfl ?_
                  refine J.done ?_
                  refine J.thenN ?_
                  refine J.ret ?_
                  refine J.leave1 (.inr rfl) rfl rfl (fun w' hC => ?_)
                  refine ⟨?_, by exact St.sub hC⟩
                  clear hC
                  first | rfl | (exfalso; simp at *; omega) | (simp at *; done) | (simp at *; omega)
                · skip
                  refine J.pass rfl rfl ?_
                  refine J.pass rfl rfl ?_
                  refine J.pass rfl rfl ?_
                  refine J.rd (Rd.pickF rfl rfl) rfl rfl ?_
                  refine J.rd (Rd.assign rfl) rfl rfl ?_
                  refine J.done ?_
                  refine J.thenN ?_
                  refine J.ret ?_
                  refine J.leave1 (.inr rfl) rfl rfl (fun w' hC => ?_)
                  refine ⟨?_, by exact St.sub hC⟩
                  clear hC
                  first | rfl | (exfalso; simp at *; omega) | (simp at *; done) | (simp at *; omega)
              · skip
                refine J.pass rfl rfl ?_
                refine J.pass rfl rfl ?_
                refine J.rd (Rd.pickF rfl rfl) rfl rfl ?_
                refine J.rd (Rd.move rfl) rfl rfl ?_
                refine J.pass rfl rfl ?_
                refine J.pass rfl rfl ?_
                refine J.pass rfl rfl ?_
                refine J.rd (Rd.pickF rfl rfl) rfl rfl ?_
                refine J.rd (Rd.assign rfl) rfl rfl ?_
                refine J.done ?_
                refine J.thenN ?_
                refine J.ret ?_
                refine J.leave1 (.inr rfl) rfl rfl (fun w' hC => ?_)
                refine ⟨?_, by exact St.sub hC⟩
                clear hC
                first | rfl | (exfalso; simp at *; omega) | (simp at *; done) | (simp at *; omega)
            · skip
              refine J.rd (Rd.move rfl) rfl rfl ?_
              refine J.rd (Rd.bin' rfl rfl rfl (fun _ => rfl)) rfl rfl ?_
              refine J.rd (Rd.move rfl) rfl rfl ?_
              refine J.bcase (fun hb9 => ?_) (fun hb9 => ?_)
              · skip
                refine J.rd (Rd.move rfl) rfl rfl ?_
                refine J.rd (Rd.bin' rfl rfl rfl (fun _ => rfl)) rfl rfl ?_
                refine J.rd (Rd.pickT rfl rfl) rfl rfl ?_
                refine J.rd (Rd.pickF rfl rfl) rfl rfl ?_
                refine J.rd (Rd.pickT rfl rfl) rfl rfl ?_
                refine J.rd (Rd.move rfl) rfl rfl ?_
                refine J.bcase (fun hb10 => ?_) (fun hb10 => ?_)
                · skip
                  refine J.rd (Rd.move rfl) rfl rfl ?_
                  refine J.rd (Rd.move rfl) rfl rfl ?_
                  refine J.call can28 rfl (fun w hC => Block.Weave_nil _ hC) rfl rfl (fun v70 => ?_)
                  refine J.andC fun hv70 => ?_
                  subst hv70
                  refine J.rd (Rd.lenR Tryd.underlying27 rfl (fun w hw => SlR.nil rfl) rfl) rfl rfl ?_
                  refine J.rd (Rd.bin' rfl rfl rfl (fun _ => rfl)) rfl rfl ?_
                  refine J.rd (Rd.pickT rfl rfl) rfl rfl ?_
                  refine J.rd (Rd.move rfl) rfl rfl ?_
                  refine J.bcase (fun hb11 => ?_) (fun hb11 => ?_)
                  · skip
                    refine J.rd (Rd.move rfl) rfl rfl ?_
                    refine J.rd (Rd.bin' rfl rfl rfl (fun _ => rfl)) rfl rfl ?_
                    refine J.rd (Rd.pickT rfl rfl) rfl rfl ?_
                    refine J.rd (Rd.move rfl) rfl rfl ?_
                    refine J.bcase (fun hb12 => ?_) (fun hb12 => ?_)
                    · skip
                      refine J.call can29 rfl (fun w hC => Bytes_nil hC) rfl rfl (fun v79 => ?_)
                      refine J.andC fun hv79 => ?_
                      subst hv79
                      refine J.rd (Rd.lenR Tryd.underlying27 rfl (fun w hw => SlR.nil rfl) rfl) rfl rfl ?_
                      refine J.rd (Rd.bin' rfl rfl rfl (fun _ => rfl)) rfl rfl ?_
                      refine J.rd (Rd.pickT rfl rfl) rfl rfl ?_
                      refine J.rd (Rd.assign rfl) rfl rfl ?_
                      refine J.done ?_
                      refine J.thenN ?_
                      refine J.ret ?_
                      refine J.leave1 (.inr rfl) rfl rfl (fun w' hC => ?_)
                      refine ⟨?_, by exact St.sub hC⟩
                      clear hC
                      first | rfl | (exfalso; simp at *; omega) | (simp at *; done) | (simp at *; omega)
                    · skip
                      refine J.pass rfl rfl ?_
                      refine J.pass rfl rfl ?_
                      refine J.pass rfl rfl ?_
                      refine J.rd (Rd.pickF rfl rfl) rfl rfl ?_
                      refine J.rd (Rd.assign rfl) rfl rfl ?_
                      refine J.done ?_
                      refine J.thenN ?_
                      refine J.ret ?_
                      refine J.leave1 (.inr rfl) rfl rfl (fun w' hC => ?_)
                      refine ⟨?_, by exact St.sub hC⟩
                      clear hC
                      first | rfl | (exfalso; simp at *; omega) | (simp at *; done) | (simp at *; omega)
                  · skip
                    refine J.pass rfl rfl ?_
                    refine J.pass rfl rfl ?_
                    refine J.rd (Rd.pickF rfl rfl) rfl rfl ?_
                    refine J.rd (Rd.move rfl) rfl rfl ?_
                    refine J.pass rfl rfl ?_
                    refine J.pass rfl rfl ?_
                    refine J.pass rfl rfl ?_
                    refine J.rd (Rd.pickF rfl rfl) rfl rfl ?_
                    refine J.rd (Rd.assign rfl) rfl rfl ?_
                    refine J.done ?_
                    refine J.thenN ?_
                    refine J.ret ?_
                    refine J.leave1 (.inr rfl) rfl rfl (fun w' hC => ?_)
                    refine ⟨?_, by exact St.sub hC⟩
                    clear hC
                    first | rfl | (exfalso; simp at *; omega) | (simp at *; done) | (simp at *; omega)
                · skip
                  refine J.pass rfl rfl ?_
                  refine J.pass rfl rfl ?_
                  refine J.pass rfl rfl ?_
                  refine J.pass rfl rfl ?_
                  refine J.pass rfl rfl ?_
                  refine J.rd (Rd.pickF rfl rfl) rfl rfl ?_
                  refine J.rd (Rd.move rfl) rfl rfl ?_
                  refine J.pass rfl rfl ?_
                  refine J.pass rfl rfl ?_
                  refine J.rd (Rd.pickF rfl rfl) rfl rfl ?_
                  refine J.rd (Rd.move rfl) rfl rfl ?_
                  refine J.pass rfl rfl ?_
                  refine J.pass rfl rfl ?_
                  refine J.pass rfl rfl ?_
                  refine J.rd (Rd.pickF rfl rfl) rfl rfl ?_
                  refine J.rd (Rd.assign rfl) rfl rfl ?_
                  refine J.done ?_
                  refine J.thenN ?_
                  refine J.ret ?_
                  refine J.leave1 (.inr rfl) rfl rfl (fun w' hC => ?_)
                  refine ⟨?_, by exact St.sub hC⟩
                  clear hC
                  first | rfl | (exfalso; simp at *; omega) | (simp at *; done) | (simp at *; omega)
              · skip
                refine J.pass rfl rfl ?_
                refine J.pass rfl rfl ?_
                refine J.rd (Rd.pickF rfl rfl) rfl rfl ?_
                refine J.rd (Rd.pickF rfl rfl) rfl rfl ?_
                refine J.rd (Rd.pickT rfl rfl) rfl rfl ?_
                refine J.rd (Rd.move rfl) rfl rfl ?_
                refine J.pass rfl rfl ?_
                refine J.pass rfl rfl ?_
                refine J.pass rfl rfl ?_
                refine J.pass rfl rfl ?_
                refine J.pass rfl rfl ?_
                refine J.rd (Rd.pickF rfl rfl) rfl rfl ?_
                refine J.rd (Rd.move rfl) rfl rfl ?_
                refine J.pass rfl rfl ?_
                refine J.pass rfl rfl ?_
                refine J.rd (Rd.pickF rfl rfl) rfl rfl ?_
                refine J.rd (Rd.move rfl) rfl rfl ?_
                refine J.pass rfl rfl ?_
                refine J.pass rfl rfl ?_
                refine J.pass rfl rfl ?_
                refine J.rd (Rd.pickF rfl rfl) rfl rfl ?_
                refine J.rd (Rd.assign rfl) rfl rfl ?_
                refine J.done ?_
                refine J.thenN ?_
                refine J.ret ?_
                refine J.leave1 (.inr rfl) rfl rfl (fun w' hC => ?_)
                refine ⟨?_, by exact St.sub hC⟩
                clear hC
                first | rfl | (exfalso; simp at *; omega) | (simp at *; done) | (simp at *; omega)
          · skip
            refine J.pass rfl rfl ?_
            refine J.pass rfl rfl ?_
            refine J.pass rfl rfl ?_
            refine J.pass rfl rfl ?_
            refine J.pass rfl rfl ?_
            refine J.pass rfl rfl ?_
            refine J.pass rfl rfl ?_
            refine J.pass rfl rfl ?_
            refine J.pass rfl rfl ?_
            refine J.rd (Rd.pickF rfl rfl) rfl rfl ?_
            refine J.rd (Rd.move rfl) rfl rfl ?_
            refine J.pass rfl rfl ?_
            refine J.pass rfl rfl ?_
            refine J.pass rfl rfl ?_
            refine J.pass rfl rfl ?_
            refine J.pass rfl rfl ?_
            refine J.rd (Rd.pickF rfl rfl) rfl rfl ?_
            refine J.rd (Rd.move rfl) rfl rfl ?_
            refine J.pass rfl rfl ?_
            refine J.pass rfl rfl ?_
            refine J.rd (Rd.pickF rfl rfl) rfl rfl ?_
            refine J.rd (Rd.move rfl) rfl rfl ?_
            refine J.pass rfl rfl ?_
            refine J.pass rfl rfl ?_
            refine J.pass rfl rfl ?_
            refine J.rd (Rd.pickF rfl rfl) rfl rfl ?_
            refine J.rd (Rd.assign rfl) rfl rfl ?_
            refine J.done ?_
            refine J.thenN ?_
            refine J.ret ?_
            refine J.leave1 (.inr rfl) rfl rfl (fun w' hC => ?_)
            refine ⟨?_, by exact St.sub hC⟩
            clear hC
            first | rfl | (exfalso; simp at *; omega) | (simp at *; done) | (simp at *; omega)
        · skip
          refine J.pass rfl rfl ?_
          refine J.pass rfl rfl ?_
          refine J.pass rfl rfl ?_
          refine J.pass rfl rfl ?_
          refine J.rd (Rd.pickF rfl rfl) rfl rfl ?_
          refine J.rd (Rd.move rfl) rfl rfl ?_
          refine J.pass rfl rfl ?_
          refine J.pass rfl rfl ?_
          refine J.pass rfl rfl ?_
          refine J.pass rfl rfl ?_
          refine J.pass rfl rfl ?_
          refine J.pass rfl rfl ?_
          refine J.pass rfl rfl ?_
          refine J.pass rfl rfl ?_
          refine J.pass rfl rfl ?_
          refine J.rd (Rd.pickF rfl rfl) rfl rfl ?_
          refine J.rd (Rd.move rfl) rfl rfl ?_
          refine J.pass rfl rfl ?_
          refine J.pass rfl rfl ?_
          refine J.pass rfl rfl ?_
          refine J.pass rfl rfl ?_
          refine J.pass rfl rfl ?_
          refine J.rd (Rd.pickF rfl rfl) rfl rfl ?_
          refine J.rd (Rd.move rfl) rfl rfl ?_
          refine J.pass rfl rfl ?_
          refine J.pass rfl rfl ?_
          refine J.rd (Rd.pickF rfl rfl) rfl rfl ?_
          refine J.rd (Rd.move rfl) rfl rfl ?_
          refine J.pass rfl rfl ?_
          refine J.pass rfl rfl ?_
          refine J.pass rfl rfl ?_
          refine J.rd (Rd.pickF rfl rfl) rfl rfl ?_
          refine J.rd (Rd.assign rfl) rfl rfl ?_
          refine J.done ?_
          refine J.thenN ?_
          refine J.ret ?_
          refine J.leave1 (.inr rfl) rfl rfl (fun w' hC => ?_)
          refine ⟨?_, by exact St.sub hC⟩
          clear hC
          first | rfl | (exfalso; simp at *; omega) | (simp at *; done) | (simp at *; omega)
      · skip
        refine J.pass rfl rfl ?_
        refine J.pass rfl rfl ?_
        refine J.rd (Rd.pickF rfl rfl) rfl rfl ?_
        refine J.rd (Rd.assign rfl) rfl rfl ?_
        refine J.done ?_
        refine J.thenN ?_
        refine J.seq ?_
        refine J.region ?_
        refine J.rd (Rd.assign rfl) rfl rfl ?_
        refine J.done ?_
        refine J.thenN ?_
        refine J.seq ?_
        refine J.region ?_
        refine J.rd (Rd.assign rfl) rfl rfl ?_
        refine J.done ?_
        refine J.thenN ?_
        refine J.seq ?_
        refine J.region ?_
        refine J.rd (Rd.move rfl) rfl rfl ?_
        refine J.call can25 rfl (fun w hC => Block.WTitle_nil _ hC) rfl rfl (fun v39 => ?_)
        refine J.done ?_
        refine J.thenN ?_
        refine J.seq ?_
        refine J.region ?_
        refine J.rd (Rd.move rfl) rfl rfl ?_
        refine J.rd (Rd.move rfl) rfl rfl ?_
        refine J.call can27 rfl (fun w hC => Block.Part_nil _ hC) rfl rfl (fun v43 => ?_)
        refine J.andC fun hv43 => ?_
        subst hv43
        refine J.rd (Rd.move rfl) rfl rfl ?_
        refine J.rd (Rd.extractL rfl) rfl rfl ?_
        refine J.rd (Rd.extractL rfl) rfl rfl ?_
        refine J.rd (Rd.assign rfl) rfl rfl ?_
        refine J.rd (Rd.assign rfl) rfl rfl ?_
        refine J.done ?_
        refine J.thenN ?_
        refine J.seq ?_
        refine J.region ?_
        refine J.rd (Rd.move rfl) rfl rfl ?_
        refine J.rd (Rd.bin' rfl rfl rfl (fun _ => rfl)) rfl rfl ?_
        refine J.rd (Rd.move rfl) rfl rfl ?_
        refine J.rd (Rd.bin' rfl rfl rfl (fun _ => rfl)) rfl rfl ?_
        refine J.rd (Rd.move rfl) rfl rfl ?_
        refine J.bcase (fun hb13 => ?_) (fun hb13 => ?_)
        · skip
          refine J.rd (Rd.move rfl) rfl rfl ?_
          refine J.rd (Rd.bin' rfl rfl rfl (fun _ => rfl)) rfl rfl ?_
          refine J.rd (Rd.move rfl) rfl rfl ?_
          refine J.rd (Rd.bin' rfl rfl rfl (fun _ => rfl)) rfl rfl ?_
          refine J.rd (Rd.pickT rfl rfl) rfl rfl ?_
          refine J.rd (Rd.move rfl) rfl rfl ?_
          refine J.bcase (fun hb14 => ?_) (fun hb14 => ?_)
          · skip
            refine J.rd (Rd.move rfl) rfl rfl ?_
            refine J.rd (Rd.move rfl) rfl rfl ?_
            refine J.rd (Rd.move rfl) rfl rfl ?_
            refine J.rd (Rd.bin' rfl rfl rfl (fun _ => rfl)) rfl rfl ?_
            refine J.rd (Rd.move rfl) rfl rfl ?_
            refine J.bcase (fun hb15 => ?_) (fun hb15 => ?_)
            · skip
              refine J.rd (Rd.move rfl) rfl rfl ?_
              refine J.rd (Rd.bin' rfl rfl rfl (fun _ => rfl)) rfl rfl ?_
              refine J.rd (Rd.pickT rfl rfl) rfl rfl ?_
              refine J.rd (Rd.pickF rfl rfl) rfl rfl ?_
              refine J.rd (Rd.pickT rfl rfl) rfl rfl ?_
              refine J.rd (Rd.move rfl) rfl rfl ?_
              refine J.bcase (fun hb16 => ?_) (fun hb16 => ?_)
              · skip
                refine J.rd (Rd.move rfl) rfl rfl ?_
                refine J.rd (Rd.move rfl) rfl rfl ?_
                refine J.call can28 rfl (fun w hC => Block.Weave_nil _ hC) rfl rfl (fun v70 => ?_)
                refine J.andC fun hv70 => ?_
                subst hv70
                refine J.rd (Rd.lenR Tryd.underlying27 rfl (fun w hw => SlR.nil rfl) rfl) rfl rfl ?_
                refine J.rd (Rd.bin' rfl rfl rfl (fun _ => rfl)) rfl rfl ?_
                refine J.rd (Rd.pickT rfl rfl) rfl rfl ?_
                refine J.rd (Rd.move rfl) rfl rfl ?_
                refine J.bcase (fun hb17 => ?_) (fun hb17 => ?_)
                · skip
                  refine J.rd (Rd.move rfl) rfl rfl ?_
                  refine J.rd (Rd.bin' rfl rfl rfl (fun _ => rfl)) rfl rfl ?_
                  refine J.rd (Rd.pickT rfl rfl) rfl rfl ?_
                  refine J.rd (Rd.move rfl) rfl rfl ?_
                  refine J.bcase (fun hb18 => ?_) (fun hb18 => ?_)
                  · skip
                    refine J.call can29 rfl (fun w hC => Bytes_nil hC) rfl rfl (fun v79 => ?_)
                    refine J.andC fun hv79 => ?_
                    subst hv79
                    refine J.rd (Rd.lenR Tryd.underlying27 rfl (fun w hw => SlR.nil rfl) rfl) rfl rfl ?_
                    refine J.rd (Rd.bin' rfl rfl rfl (fun _ => rfl)) rfl rfl ?_
                    refine J.rd (Rd.pickT rfl rfl) rfl rfl ?_
                    refine J.rd (Rd.assign rfl) rfl rfl ?_
                    refine J.done ?_
                    refine J.thenN ?_
                    refine J.ret ?_
                    refine J.leave1 (.inr rfl) rfl rfl (fun w' hC => ?_)
                    refine ⟨?_, by exact St.sub hC⟩
                    clear hC
                    first | rfl | (exfalso; simp at *; omega) | (simp at *; done) | (simp at *; omega)
                  · skip
                    refine J.pass rfl rfl ?_
                    refine J.pass rfl rfl ?_
                    refine J.pass rfl rfl ?_
                    refine J.rd (Rd.pickF rfl rfl) rfl rfl ?_
                    refine J.rd (Rd.assign rfl) rfl rfl ?_
                    refine J.done ?_
                    refine J.thenN ?_
                    refine J.ret ?_
                    refine J.leave1 (.inr rfl) rfl rfl (fun w' hC => ?_)
                    refine ⟨?_, by exact St.sub hC⟩
                    clear hC
                    first | rfl | (exfalso; simp at *; omega) | (simp at *; done) | (simp at *; omega)
                · skip
                  refine J.pass rfl rfl ?_
                  refine J.pass rfl rfl ?_
                  refine J.rd (Rd.pickF rfl rfl) rfl rfl ?_
                  refine J.rd (Rd.move rfl) rfl rfl ?_
                  refine J.pass rfl rfl ?_
                  refine J.pass rfl rfl ?_
                  refine J.pass rfl rfl ?_
                  refine J.rd (Rd.pickF rfl rfl) rfl rfl ?_
                  refine J.rd (Rd.assign rfl) rfl rfl ?_
                  refine J.done ?_
                  refine J.thenN ?_
                  refine J.ret ?_
                  refine J.leave1 (.inr rfl) rfl rfl (fun w' hC => ?_)
                  refine ⟨?_, by exact St.sub hC⟩
                  clear hC
                  first | rfl | (exfalso; simp at *; omega) | (simp at *; done) | (simp at *; omega)
              · skip
                refine J.pass rfl rfl ?_
                refine J.pass rfl rfl ?_
                refine J.pass rfl rfl ?_
                refine J.pass rfl rfl ?_
                refine J.pass rfl rfl ?_
                refine J.rd (Rd.pickF rfl rfl) rfl rfl ?_
                refine J.rd (Rd.move rfl) rfl rfl ?_
                refine J.pass rfl rfl ?_
                refine J.pass rfl rfl ?_
                refine J.rd (Rd.pickF rfl rfl) rfl rfl ?_
                refine J.rd (Rd.move rfl) rfl rfl ?_
                refine J.pass rfl rfl ?_
                refine J.pass rfl rfl ?_
                refine J.pass rfl rfl ?_
                refine J.rd (Rd.pickF rfl rfl) rfl rfl ?_
                refine J.rd (Rd.assign rfl) rfl rfl ?_
                refine J.done ?_
                refine J.thenN ?_
                refine J.ret ?_
                refine J.leave1 (.inr rfl) rfl rfl (fun w' hC => ?_)
                refine ⟨?_, by exact St.sub hC⟩
                clear hC
                first | rfl | (exfalso; simp at *; omega) | (simp at *; done) | (simp at *; omega)
            · skip
              refine J.pass rfl rfl ?_
              refine J.pass rfl rfl ?_
              refine J.rd (Rd.pickF rfl rfl) rfl rfl ?_
              refine J.rd (Rd.pickF rfl rfl) rfl rfl ?_
              refine J.rd (Rd.pickT rfl rfl) rfl rfl ?_
              refine J.rd (Rd.move rfl) rfl rfl ?_
              refine J.pass rfl rfl ?_
              refine J.pass rfl rfl ?_
              refine J.pass rfl rfl ?_
              refine J.pass rfl rfl ?_
              refine J.pass rfl rfl ?_
              refine J.rd (Rd.pickF rfl rfl) rfl rfl ?_
              refine J.rd (Rd.move rfl) rfl rfl ?_
              refine J.pass rfl rfl ?_
              refine J.pass rfl rfl ?_
              refine J.rd (Rd.pickF rfl rfl) rfl rfl ?_
              refine J.rd (Rd.move rfl) rfl rfl ?_
              refine J.pass rfl rfl ?_
              refine J.pass rfl rfl ?_
              refine J.pass rfl rfl ?_
              refine J.rd (Rd.pickF rfl rfl) rfl rfl ?_
              refine J.rd (Rd.assign rfl) rfl rfl ?_
              refine J.done ?_
              refine J.thenN ?_
              refine J.ret ?_
              refine J.leave1 (.inr rfl) rfl rfl (fun w' hC => ?_)
              refine ⟨?_, by exact St.sub hC⟩
              clear hC
              first | rfl | (exfalso; simp at *; omega) | (simp at *; done) | (simp at *; omega)
          · skip
            refine J.pass rfl rfl ?_
            refine J.pass rfl rfl ?_
            refine J.pass rfl rfl ?_
            refine J.pass rfl rfl ?_
            refine J.pass rfl rfl ?_
            refine J.pass rfl rfl ?_
            refine J.pass rfl rfl ?_
            refine J.pass rfl rfl ?_
            refine J.pass rfl rfl ?_
            refine J.rd (Rd.pickF rfl rfl) rfl rfl ?_
            refine J.rd (Rd.move rfl) rfl rfl ?_
            refine J.pass rfl rfl ?_
            refine J.pass rfl rfl ?_
            refine J.pass rfl rfl ?_
            refine J.pass rfl rfl ?_
            refine J.pass rfl rfl ?_
            refine J.rd (Rd.pickF rfl rfl) rfl rfl ?_
            refine J.rd (Rd.move rfl) rfl rfl ?_
            refine J.pass rfl rfl ?_
            refine J.pass rfl rfl ?_
            refine J.rd (Rd.pickF rfl rfl) rfl rfl ?_
            refine J.rd (Rd.move rfl) rfl rfl ?_
            refine J.pass rfl rfl ?_
            refine J.pass rfl rfl ?_
            refine J.pass rfl rfl ?_
            refine J.rd (Rd.pickF rfl rfl) rfl rfl ?_
            refine J.rd (Rd.assign rfl) rfl rfl ?_
            refine J.done ?_
            refine J.thenN ?_
            refine J.ret ?_
            refine J.leave1 (.inr rfl) rfl rfl (fun w' hC => ?_)
            refine ⟨?_, by exact St.sub hC⟩
            clear hC
            first | rfl | (exfalso; simp at *; omega) | (simp at *; done) | (simp at *; omega)
        · skip
          refine J.pass rfl rfl ?_
          refine J.pass rfl rfl ?_
          refine J.pass rfl rfl ?_
          refine J.pass rfl rfl ?_
          refine J.rd (Rd.pickF rfl rfl) rfl rfl ?_
          refine J.rd (Rd.move rfl) rfl rfl ?_
          refine J.pass rfl rfl ?_
          refine J.pass rfl rfl ?_
          refine J.pass rfl rfl ?_
          refine J.pass rfl rfl ?_
          refine J.pass rfl rfl ?_
          refine J.pass rfl rfl ?_
          refine J.pass rfl rfl ?_
          refine J.pass rfl rfl ?_
          refine J.pass rfl rfl ?_
          refine J.rd (Rd.pickF rfl rfl) rfl rfl ?_
          refine J.rd (Rd.move rfl) rfl rfl ?_
          refine J.pass rfl rfl ?_
          refine J.pass rfl rfl ?_
          refine J.pass rfl rfl ?_
          refine J.pass rfl rfl ?_
          refine J.pass rfl rfl ?_
          refine J.rd (Rd.pickF rfl rfl) rfl rfl ?_
          refine J.rd (Rd.move rfl) rfl rfl ?_
          refine J.pass rfl rfl ?_
          refine J.pass rfl rfl ?_
          refine J.rd (Rd.pickF rfl rfl) rfl rfl ?_
          refine J.rd (Rd.move rfl) rfl rfl ?_
          refine J.pass rfl rfl ?_
          refine J.pass rfl rfl ?_
          refine J.pass rfl rfl ?_
          refine J.rd (Rd.pickF rfl rfl) rfl rfl ?_
          refine J.rd (Rd.assign rfl) rfl rfl ?_
          refine J.done ?_
          refine J.thenN ?_
          refine J.ret ?_
          refine J.leave1 (.inr rfl) rfl rfl (fun w' hC => ?_)
          refine ⟨?_, by exact St.sub hC⟩
          clear hC
          first | rfl | (exfalso; simp at *; omega) | (simp at *; done) | (simp at *; omega)

theorem WeaveArgs_bad {Z w : World} {Lf : List HP} {v : Value} {xs : List Value} (n : Int) (h1 : n < 0 ∨ 65536 < n) (hT : ∀ w, St Z w Lf → Lib.Utf8Tabs 1 2 w) (hv : ∀ w, St Z w Lf → SlR w v xs) (hst : St Z w Lf) : Calls Tryd.prog 6 #[.int .i64 n, v] w (Ret fun r w' => r = .bool true ∧ St Z w' Lf) := by
  refine J.enter (N := 83) (l := [.int .i64 n, v]) (C := Sto Z Lf) Tryd.func6 rfl Tryd.ntmps6 (by simp) (hst) ?_
  refine J.seq ?_
  refine J.region ?_
  refine J.rd (Rd.assign rfl) rfl rfl ?_
  refine J.done ?_
  refine J.thenN ?_
  refine J.seq ?_
  refine J.seq ?_
  refine J.region ?_
  refine J.call can21 rfl (fun w hC => lives_calls hT hC) rfl rfl (fun v14 => ?_)
  refine J.andC fun hv14 => ?_
  subst hv14
  refine J.rd (Rd.un rfl (fun _ => rfl)) rfl rfl ?_
  refine J.rd (Rd.move rfl) rfl rfl ?_
  refine J.bcase (fun hb1 => ?_) (fun hb1 => ?_)
  · skip
    refine J.pass rfl rfl ?_
    refine J.pass rfl rfl ?_
    refine J.pass rfl rfl ?_
    refine J.rd (Rd.pickT rfl rfl) rfl rfl ?_
    refine J.done ?_
    refine J.thenN ?_
    refine J.condT rfl ?_
    refine J.seq ?_
    refine J.region ?_
    refine J.call can21 rfl (fun w hC => lives_calls hT hC) rfl rfl (fun v21 => ?_)
    refine J.andC fun hv21 => ?_
    subst hv21
    refine J.rd (Rd.assign rfl) rfl rfl ?_
    refine J.done ?_
    refine J.thenN ?_
    refine J.ret ?_
    refine J.thenR ?_
    refine J.leave1 (.inr rfl) rfl rfl (fun w' hC => ?_)
    refine ⟨?_, by exact St.sub hC⟩
    clear hC
    first | rfl | (exfalso; simp at *; omega) | (simp at *; done) | (simp at *; omega)
  · skip
    refine J.rd (Rd.move rfl) rfl rfl ?_
    refine J.rd (Rd.lenR Tryd.underlying27 rfl (fun w hw => hv w hw) rfl) rfl rfl ?_
    refine J.rd (Rd.bin' rfl rfl rfl (fun _ => rfl)) rfl rfl ?_
    refine J.rd (Rd.pickF rfl rfl) rfl rfl ?_
    refine J.done ?_
    refine J.thenN ?_
    refine J.cond rfl (fun hb2 => ?_) (fun hb2 => ?_)
    · skip
      refine J.seq ?_
      refine J.region ?_
      refine J.call can21 rfl (fun w hC => lives_calls hT hC) rfl rfl (fun v21 => ?_)
      refine J.andC fun hv21 => ?_
      subst hv21
      refine J.rd (Rd.assign rfl) rfl rfl ?_
      refine J.done ?_
      refine J.thenN ?_
      refine J.ret ?_
      refine J.thenR ?_
      refine J.leave1 (.inr rfl) rfl rfl (fun w' hC => ?_)
      refine ⟨?_, by exact St.sub hC⟩
      clear hC
      first | rfl | (exfalso; simp at *; omega) | (simp at *; done) | (simp at *; omega)
    · skip
      refine J.skip ?_
      refine J.thenN ?_
      refine J.seq ?_
      refine J.region ?_
      refine J.rd (Rd.move rfl) rfl rfl ?_
      refine J.call can23 rfl (fun w hC => Block.New_bad n h1 hC) rfl rfl (fun v24 => ?_)
      refine J.andC fun hv24 => ?_
      subst hv24
      refine J.rd (Rd.move rfl) rfl rfl ?_
      refine J.rd (Rd.extractL rfl) rfl rfl ?_
      refine J.rd (Rd.extractL rfl) rfl rfl ?_
      refine J.rd (Rd.assign rfl) rfl rfl ?_
      refine J.rd (Rd.assign rfl) rfl rfl ?_
      refine J.done ?_
      refine J.thenN ?_
      refine J.seq ?_
      refine J.region ?_
      refine J.rd (Rd.move rfl) rfl rfl ?_
      refine J.call can24 rfl (fun w hC => Block.NewParter_bad n h1 hC) rfl rfl (fun v29 => ?_)
      refine J.andC fun hv29 => ?_
      subst hv29
      refine J.rd (Rd.move rfl) rfl rfl ?_
      refine J.rd (Rd.extractL rfl) rfl rfl ?_
      refine J.rd (Rd.extractL rfl) rfl rfl ?_
      refine J.rd (Rd.assign rfl) rfl rfl ?_
      refine J.rd (Rd.assign rfl) rfl rfl ?_
      refine J.done ?_
      refine J.thenN ?_
      refine J.seq ?_
      refine J.region ?_
      refine J.rd (Rd.move rfl) rfl rfl ?_
      refine J.rd (Rd.bin' rfl rfl rfl (fun _ => rfl)) rfl rfl ?_
      refine J.rd (Rd.move rfl) rfl rfl ?_
      refine J.bcase (fun hb3 => ?_) (fun hb3 => ?_)
      · skip
        refine J.rd (Rd.move rfl) rfl rfl ?_
        refine J.rd (Rd.bin' rfl rfl rfl (fun _ => rfl)) rfl rfl ?_
        refine J.rd (Rd.pickT rfl rfl) rfl rfl ?_
        refine J.rd (Rd.assign rfl) rfl rfl ?_
        refine J.done ?_
        refine J.thenN ?_
        refine J.seq ?_
        refine J.region ?_
        refine J.rd (Rd.assign rfl) rfl rfl ?_
        refine J.done ?_
        refine J.thenN ?_
        refine J.seq ?_
        refine J.region ?_
        refine J.rd (Rd.assign rfl) rfl rfl ?_
        refine J.done ?_
        refine J.thenN ?_
        refine J.seq ?_
        refine J.region ?_
        refine J.rd (Rd.move rfl) rfl rfl ?_
        refine J.call can25 rfl (fun w hC => Block.WTitle_nil _ hC) rfl rfl (fun v39 => ?_)
        refine J.done ?_
        refine J.thenN ?_
        refine J.seq ?_
        refine J.region ?_
        refine J.rd (Rd.move rfl) rfl rfl ?_
        refine J.rd (Rd.move rfl) rfl rfl ?_
        refine J.call can27 rfl (fun w hC => Block.Part_nil _ hC) rfl rfl (fun v43 => ?_)
        refine J.andC fun hv43 => ?_
        subst hv43
        refine J.rd (Rd.move rfl) rfl rfl ?_
        refine J.rd (Rd.extractL rfl) rfl rfl ?_
        refine J.rd (Rd.extractL rfl) rfl rfl ?_
        refine J.rd (Rd.assign rfl) rfl rfl ?_
        refine J.rd (Rd.assign rfl) rfl rfl ?_
        refine J.done ?_
        refine J.thenN ?_
        refine J.seq ?_
        refine J.region ?_
        refine J.rd (Rd.move rfl) rfl rfl ?_
        refine J.rd (Rd.bin' rfl rfl rfl (fun _ => rfl)) rfl rfl ?_
        refine J.rd (Rd.move rfl) rfl rfl ?_
        refine J.rd (Rd.bin' rfl rfl rfl (fun _ => rfl)) rfl rfl ?_
        refine J.rd (Rd.move rfl) rfl rfl ?_
        refine J.bcase (fun hb4 => ?_) (fun hb4 => ?_)
        · skip
          refine J.rd (Rd.move rfl) rfl rfl ?_
          refine J.rd (Rd.bin' rfl rfl rfl (fun _ => rfl)) rfl rfl ?_
          refine J.rd (Rd.move rfl) rfl rfl ?_
          refine J.rd (Rd.bin' rfl rfl rfl (fun _ => rfl)) rfl rfl ?_
          refine J.rd (Rd.pickT rfl rfl) rfl rfl ?_
          refine J.rd (Rd.move rfl) rfl rfl ?_
          refine J.bcase (fun hb5 => ?_) (fun hb5 => ?_)
          · skip
            refine J.rd (Rd.move rfl) rfl rfl ?_
            refine J.rd (Rd.move rfl) rfl rfl ?_
            refine J.bcase (fun hb6 => ?_) (fun hb6 => ?_)
            · skip
              refine J.pass rfl rfl ?_
              refine J.pass rfl rfl ?_
              refine J.pass rfl rfl ?_
              refine J.pass rfl rfl ?_
              refine J.pass rfl rfl ?_
              refine J.pass rfl rfl ?_
              refine J.rd (Rd.pickT rfl rfl) rfl rfl ?_
              refine J.rd (Rd.pickT rfl rfl) rfl rfl ?_
              refine J.rd (Rd.move rfl) rfl rfl ?_
              refine J.rd (Rd.move rfl) rfl rfl ?_
              refine J.rd (Rd.move rfl) rfl rfl ?_
              refine J.call can28 rfl (fun w hC => Block.Weave_nil _ hC) rfl rfl (fun v70 => ?_)
              refine J.andC fun hv70 => ?_
              subst hv70
              refine J.rd (Rd.lenR Tryd.underlying27 rfl (fun w hw => SlR.nil rfl) rfl) rfl rfl ?_
              refine J.rd (Rd.bin' rfl rfl rfl (fun _ => rfl)) rfl rfl ?_
              refine J.rd (Rd.pickT rfl rfl) rfl rfl ?_
              refine J.rd (Rd.move rfl) rfl rfl ?_
              refine J.bcase (fun hb7 => ?_) (fun hb7 => ?_)
              · skip
                refine J.rd (Rd.move rfl) rfl rfl ?_
                refine J.rd (Rd.bin' rfl rfl rfl (fun _ => rfl)) rfl rfl ?_
                refine J.rd (Rd.pickT rfl rfl) rfl rfl ?_
                refine J.rd (Rd.move rfl) rfl rfl ?_
                refine J.bcase (fun hb8 => ?_) (fun hb8 => ?_)
                · skip
                  refine J.call can29 rfl (fun w hC => Bytes_nil hC) rfl rfl (fun v79 => ?_)
                  refine J.andC fun hv79 => ?_
                  subst hv79
                  refine J.rd (Rd.lenR Tryd.underlying27 rfl (fun w hw => SlR.nil rfl) rfl) rfl rfl ?_
                  refine J.rd (Rd.bin' rfl rfl rfl (fun _ => rfl)) rfl rfl ?_
                  refine J.rd (Rd.pickT rfl rfl) rfl rfl ?_
                  refine J.rd (Rd.assign rfl) rfl rfl ?_
                  refine J.done ?_
                  refine J.thenN ?_
                  refine J.ret ?_
                  refine J.leave1 (.inr rfl) rfl rfl (fun w' hC => ?_)
                  refine ⟨?_, by exact St.sub hC⟩
                  clear hC
                  first | rfl | (exfalso; simp at *; omega) | (simp at *; done) | (simp at *; omega)
                · skip
                  refine J.pass rfl rfl ?_
                  refine J.pass rfl rfl ?_
                  refine J.pass rfl rfl ?_
                  refine J.rd (Rd.pickF rfl rfl) rfl rfl ?_
                  refine J.rd (Rd.assign rfl) rfl rfl ?_
                  refine J.done ?_
                  refine J.thenN ?_
                  refine J.ret ?_
                  refine J.leave1 (.inr rfl) rfl rfl (fun w' hC => ?_)
                  refine ⟨?_, by exact St.sub hC⟩
                  clear hC
                  first | rfl | (exfalso; simp at *; omega) | (simp at *; done) | (simp at *; omega)
              · skip
                refine J.pass rfl rfl ?_
                refine J.pass rfl rfl ?_
                refine J.rd (Rd.pickF rfl rfl) rfl rfl ?_
                refine J.rd (Rd.move rfl) rfl rfl ?_
                refine J.pass rfl rfl ?_
                refine J.pass rfl rfl ?_
                refine J.pass rfl rfl ?_
                refine J.rd (Rd.pickF rfl rfl) rfl rfl ?_
                refine J.rd (Rd.assign rfl) rfl rfl ?_
                refine J.done ?_
                refine J.thenN ?_
                refine J.ret ?_
                refine J.leave1 (.inr rfl) rfl rfl (fun w' hC => ?_)
                refine ⟨?_, by exact St.sub hC⟩
                clear hC
                first | rfl | (exfalso; simp at *; omega) | (simp at *; done) | (simp at *; omega)
            · skip
              refine J.rd (Rd.move rfl) rfl rfl ?_
              refine J.rd (Rd.bin' rfl rfl rfl (fun _ => rfl)) rfl rfl ?_
              refine J.rd (Rd.move rfl) rfl rfl ?_
              refine J.bcase (fun hb9 => ?_) (fun hb9 => ?_)
              · skip
                refine J.rd (Rd.move rfl) rfl rfl ?_
                refine J.rd (Rd.bin' rfl rfl rfl (fun _ => rfl)) rfl rfl ?_
                refine J.rd (Rd.pickT rfl rfl) rfl rfl ?_
                refine J.rd (Rd.pickF rfl rfl) rfl rfl ?_
                refine J.rd (Rd.pickT rfl rfl) rfl rfl ?_
                refine J.rd (Rd.move rfl) rfl rfl ?_
                refine J.bcase (fun hb10 => ?_) (fun hb10 => ?_)
                · skip
                  refine J.rd (Rd.move rfl) rfl rfl ?_
                  refine J.rd (Rd.move rfl) rfl rfl ?_
                  refine J.call can28 rfl (fun w hC => Block.Weave_nil _ hC) rfl rfl (fun v70 => ?_)
                  refine J.andC fun hv70 => ?_
                  subst hv70
                  refine J.rd (Rd.lenR Tryd.underlying27 rfl (fun w hw => SlR.nil rfl) rfl) rfl rfl ?_
                  refine J.rd (Rd.bin' rfl rfl rfl (fun _ => rfl)) rfl rfl ?_
                  refine J.rd (Rd.pickT rfl rfl) rfl rfl ?_
                  refine J.rd (Rd.move rfl) rfl rfl ?_
                  refine J.bcase (fun hb11 => ?_) (fun hb11 => ?_)
                  · skip
                    refine J.rd (Rd.move rfl) rfl rfl ?_
                    refine J.rd (Rd.bin' rfl rfl rfl (fun _ => rfl)) rfl rfl ?_
                    refine J.rd (Rd.pickT rfl rfl) rfl rfl ?_
                    refine J.rd (Rd.move rfl) rfl rfl ?_
                    refine J.bcase (fun hb12 => ?_) (fun hb12 => ?_)
                    · skip
                      refine J.call can29 rfl (fun w hC => Bytes_nil hC) rfl rfl (fun v79 => ?_)
                      refine J.andC fun hv79 => ?_
                      subst hv79
                      refine J.rd (Rd.lenR Tryd.underlying27 rfl (fun w hw => SlR.nil rfl) rfl) rfl rfl ?_
                      refine J.rd (Rd.bin' rfl rfl rfl (fun _ => rfl)) rfl rfl ?_
                      refine J.rd (Rd.pickT rfl rfl) rfl rfl ?_
                      refine J.rd (Rd.assign rfl) rfl rfl ?_
                      refine J.done ?_
                      refine J.thenN ?_
                      refine J.ret ?_
                      refine J.leave1 (.inr rfl) rfl rfl (fun w' hC => ?_)
                      refine ⟨?_, by exact St.sub hC⟩
                      clear hC
                      first | rfl | (exfalso; simp at *; omega) | (simp at *; done) | (simp at *; omega)
                    · skip
                      refine J.pass rfl rfl ?_
                      refine J.pass rfl rfl ?_
                      refine J.pass rfl rfl ?_
                      refine J.rd (Rd.pickF rfl rfl) rfl rfl ?_
                      refine J.rd (Rd.assign rfl) rfl rfl ?_
                      refine J.done ?_
                      refine J.thenN ?_
                      refine J.ret ?_
                      refine J.leave1 (.inr rfl) rfl rfl (fun w' hC => ?_)
                      refine ⟨?_, by exact St.sub hC⟩
                      clear hC
                      first | rfl | (exfalso; simp at *; omega) | (simp at *; done) | (simp at *; omega)
                  · skip
                    refine J.pass rfl rfl ?_
                    refine J.pass rfl rfl ?_
                    refine J.rd (Rd.pickF rfl rfl) rfl rfl ?_
                    refine J.rd (Rd.move rfl) rfl rfl ?_
                    refine J.pass rfl rfl ?_
                    refine J.pass rfl rfl ?_
                    refine J.pass rfl rfl ?_
                    refine J.rd (Rd.pickF rfl rfl) rfl rfl ?_
                    refine J.rd (Rd.assign rfl) rfl rfl ?_
                    refine J.done ?_
                    refine J.thenN ?_
                    refine J.ret ?_
                    refine J.leave1 (.inr rfl) rfl rfl (fun w' hC => ?_)
                    refine ⟨?_, by exact St.sub hC⟩
                    clear hC
                    first | rfl | (exfalso; simp at *; omega) | (simp at *; done) | (simp at *; omega)
                · skip
                  refine J.pass rfl rfl ?_
                  refine J.pass rfl rfl ?_
                  refine J.pass rfl rfl ?_
                  refine J.pass rfl rfl ?_
                  refine J.pass rfl rfl ?_
                  refine J.rd (Rd.pickF rfl rfl) rfl rfl ?_
                  refine J.rd (Rd.move rfl) rfl rfl ?_
                  refine J.pass rfl rfl ?_
                  refine J.pass rfl rfl ?_
                  refine J.rd (Rd.pickF rfl rfl) rfl rfl ?_
                  refine J.rd (Rd.move rfl) rfl rfl ?_
                  refine J.pass rfl rfl ?_
                  refine J.pass rfl rfl ?_
                  refine J.pass rfl rfl ?_
                  refine J.rd (Rd.pickF rfl rfl) rfl rfl ?_
                  refine J.rd (Rd.assign rfl) rfl rfl ?_
                  refine J.done ?_
                  refine J.thenN ?_
                  refine J.ret ?_
                  refine J.leave1 (.inr rfl) rfl rfl (fun w' hC => ?_)
                  refine ⟨?_, by exact St.sub hC⟩
                  clear hC
                  first | rfl | (exfalso; simp at *; omega) | (simp at *; done) | (simp at *; omega)
              · skip
                refine J.pass rfl rfl ?_
                refine J.pass rfl rfl ?_
                refine J.rd (Rd.pickF rfl rfl) rfl rfl ?_
                refine J.rd (Rd.pickF rfl rfl) rfl rfl ?_
                refine J.rd (Rd.pickT rfl rfl) rfl rfl ?_
                refine J.rd (Rd.move rfl) rfl rfl ?_
                refine J.pass rfl rfl ?_
                refine J.pass rfl rfl ?_
                refine J.pass rfl rfl ?_
                refine J.pass rfl rfl ?_
                refine J.pass rfl rfl ?_
                refine J.rd (Rd.pickF rfl rfl) rfl rfl ?_
                refine J.rd (Rd.move rfl) rfl rfl ?_
                refine J.pass rfl rfl ?_
                refine J.pass rfl rfl ?_
                refine J.rd (Rd.pickF rfl rfl) rfl rfl ?_
                refine J.rd (Rd.move rfl) rfl rfl ?_
                refine J.pass rfl rfl ?_
                refine J.pass rfl rfl ?_
                refine J.pass rfl rfl ?_
                refine J.rd (Rd.pickF rfl rfl) rfl rfl ?_
                refine J.rd (Rd.assign rfl) rfl rfl ?_
                refine J.done ?_
                refine J.thenN ?_
                refine J.ret ?_
                refine J.leave1 (.inr rfl) rfl rfl (fun w' hC => ?_)
                refine ⟨?_, by exact St.sub hC⟩
                clear hC
                first | rfl | (exfalso; simp at *; omega) | (simp at *; done) | (simp at *; omega)
          · skip
            refine J.pass rfl rfl ?_
            refine J.pass rfl rfl ?_
            refine J.pass rfl rfl ?_
            refine J.pass rfl rfl ?_
            refine J.pass rfl rfl ?_
            refine J.pass rfl rfl ?_
            refine J.pass rfl rfl ?_
            refine J.pass rfl rfl ?_
            refine J.pass rfl rfl ?_
            refine J.rd (Rd.pickF rfl rfl) rfl rfl ?_
            refine J.rd (Rd.move rfl) rfl rfl ?_
            refine J.pass rfl rfl ?_
            refine J.pass rfl rfl ?_
            refine J.pass rfl rfl ?_
            refine J.pass rfl rfl ?_
            refine J.pass rfl rfl ?_
            refine J.rd (Rd.pickF rfl rfl) rfl rfl ?_
            refine J.rd (Rd.move rfl) rfl rfl ?_
            refine J.pass rfl rfl ?_
            refine J.pass rfl rfl ?_
            refine J.rd (Rd.pickF rfl rfl) rfl rfl ?_
            refine J.rd (Rd.move rfl) rfl rfl ?_
            refine J.pass rfl rfl ?_
            refine J.pass rfl rfl ?_
            refine J.pass rfl rfl ?_
            refine J.rd (Rd.pickF rfl rfl) rfl rfl ?_
            refine J.rd (Rd.assign rfl) rfl rfl ?_
            refine J.done ?_
            refine J.thenN ?_
            refine J.ret ?_
            refine J.leave1 (.inr rfl) rfl rfl (fun w' hC => ?_)
            refine ⟨?_, by exact St.sub hC⟩
            clear hC
            first | rfl | (exfalso; simp at *; omega) | (simp at *; done) | (simp at *; omega)
        · skip
          refine J.pass rfl rfl ?_
          refine J.pass rfl rfl ?_
          refine J.pass rfl rfl ?_
          refine J.pass rfl rfl ?_
          refine J.rd (Rd.pickF rfl rfl) rfl rfl ?_
          refine J.rd (Rd.move rfl) rfl rfl ?_
          refine J.pass rfl rfl ?_
          refine J.pass rfl rfl ?_
          refine J.pass rfl rfl ?_
          refine J.pass rfl rfl ?_
          refine J.pass rfl rfl ?_
          refine J.pass rfl rfl ?_
          refine J.pass rfl rfl ?_
          refine J.pass rfl rfl ?_
          refine J.pass rfl rfl ?_
          refine J.rd (Rd.pickF rfl rfl) rfl rfl ?_
          refine J.rd (Rd.move rfl) rfl rfl ?_
          refine J.pass rfl rfl ?_
          refine J.pass rfl rfl ?_
          refine J.pass rfl rfl ?_
          refine J.pass rfl rfl ?_
          refine J.pass rfl rfl ?_
          refine J.rd (Rd.pickF rfl rfl) rfl rfl ?_
          refine J.rd (Rd.move rfl) rfl rfl ?_
          refine J.pass rfl rfl ?_
          refine J.pass rfl rfl ?_
          refine J.rd (Rd.pickF rfl rfl) rfl rfl ?_
          refine J.rd (Rd.move rfl) rfl rfl ?_
          refine J.pass rfl rfl ?_
          refine J.pass rfl rfl ?_
          refine J.pass rfl rfl ?_
          refine J.rd (Rd.pickF rfl rfl) rfl rfl ?_
          refine J.rd (Rd.assign rfl) rfl rfl ?_
          refine J.done ?_
          refine J.thenN ?_
          refine J.ret ?_
          refine J.leave1 (.inr rfl) rfl rfl (fun w' hC => ?_)
          refine ⟨?_, by exact St.sub hC⟩
          clear hC
          first | rfl | (exfalso; simp at *; omega) | (simp at *; done) | (simp at *; omega)
      · skip
        refine J.pass rfl rfl ?_
        refine J.pass rfl rfl ?_
        refine J.rd (Rd.pickF rfl rfl) rfl rfl ?_
        refine J.rd (Rd.assign rfl) rfl rfl ?_
        refine J.done ?_
        refine J.thenN ?_
        refine J.seq ?_
        refine J.region ?_
        refine J.rd (Rd.assign rfl) rfl rfl ?_
        refine J.done ?_
        refine J.thenN ?_
        refine J.seq ?_
        refine J.region ?_
        refine J.rd (Rd.assign rfl) rfl rfl ?_
        refine J.done ?_
        refine J.thenN ?_
        refine J.seq ?_
        refine J.region ?_
        refine J.rd (Rd.move rfl) rfl rfl ?_
        refine J.call can25 rfl (fun w hC => Block.WTitle_nil _ hC) rfl rfl (fun v39 => ?_)
        refine J.done ?_
        refine J.thenN ?_
        refine J.seq ?_
        refine J.region ?_
        refine J.rd (Rd.move rfl) rfl rfl ?_
        refine J.rd (Rd.move rfl) rfl rfl ?_
        refine J.call can27 rfl (fun w hC => Block.Part_nil _ hC) rfl rfl (fun v43 => ?_)
        refine J.andC fun hv43 => ?_
        subst hv43
        refine J.rd (Rd.move rfl) rfl rfl ?_
        refine J.rd (Rd.extractL rfl) rfl rfl ?_
        refine J.rd (Rd.extractL rfl) rfl rfl ?_
        refine J.rd (Rd.assign rfl) rfl rfl ?_
        refine J.rd (Rd.assign rfl) rfl rfl ?_
        refine J.done ?_
        refine J.thenN ?_
        refine J.seq ?_
        refine J.region ?_
        refine J.rd (Rd.move rfl) rfl rfl ?_
        refine J.rd (Rd.bin' rfl rfl rfl (fun _ => rfl)) rfl rfl ?_
        refine J.rd (Rd.move rfl) rfl rfl ?_
        refine J.rd (Rd.bin' rfl rfl rfl (fun _ => rfl)) rfl rfl ?_
        refine J.rd (Rd.move rfl) rfl rfl ?_
        refine J.bcase (fun hb13 => ?_) (fun hb13 => ?_)
        · skip
          refine J.rd (Rd.move rfl) rfl rfl ?_
          refine J.rd (Rd.bin' rfl rfl rfl (fun _ => rfl)) rfl rfl ?_
          refine J.rd (Rd.move rfl) rfl rfl ?_
          refine J.rd (Rd.bin' rfl rfl rfl (fun _ => rfl)) rfl rfl ?_
          refine J.rd (Rd.pickT rfl rfl) rfl rfl ?_
          refine J.rd (Rd.move rfl) rfl rfl ?_
          refine J.bcase (fun hb14 => ?_) (fun hb14 => ?_)
          · skip
            refine J.rd (Rd.move rfl) rfl rfl ?_
            refine J.rd (Rd.move rfl) rfl rfl ?_
            refine J.rd (Rd.move rfl) rfl rfl ?_
            refine J.rd (Rd.bin' rfl rfl rfl (fun _ => rfl)) rfl rfl ?_
            refine J.rd (Rd.move rfl) rfl rfl ?_
            refine J.bcase (fun hb15 => ?_) (fun hb15 => ?_)
            · skip
              refine J.rd (Rd.move rfl) rfl rfl ?_
              refine J.rd (Rd.bin' rfl rfl rfl (fun _ => rfl)) rfl rfl ?_
              refine J.rd (Rd.pickT rfl rfl) rfl rfl ?_
              refine J.rd (Rd.pickF rfl rfl) rfl rfl ?_
              refine J.rd (Rd.pickT rfl rfl) rfl rfl ?_
              refine J.rd (Rd.move rfl) rfl rfl ?_
              refine J.bcase (fun hb16 => ?_) (fun hb16 => ?_)
              · skip
                refine J.rd (Rd.move rfl) rfl rfl ?_
                refine J.rd (Rd.move rfl) rfl rfl ?_
                refine J.call can28 rfl (fun w hC => Block.Weave_nil _ hC) rfl rfl (fun v70 => ?_)
                refine J.andC fun hv70 => ?_
                subst hv70
                refine J.rd (Rd.lenR Tryd.underlying27 rfl (fun w hw => SlR.nil rfl) rfl) rfl rfl ?_
                refine J.rd (Rd.bin' rfl rfl rfl (fun _ => rfl)) rfl rfl ?_
                refine J.rd (Rd.pickT rfl rfl) rfl rfl ?_
                refine J.rd (Rd.move rfl) rfl rfl ?_
                refine J.bcase (fun hb17 => ?_) (fun hb17 => ?_)
                · skip
                  refine J.rd (Rd.move rfl) rfl rfl ?_
                  refine J.rd (Rd.bin' rfl rfl rfl (fun _ => rfl)) rfl rfl ?_
                  refine J.rd (Rd.pickT rfl rfl) rfl rfl ?_
                  refine J.rd (Rd.move rfl) rfl rfl ?_
                  refine J.bcase (fun hb18 => ?_) (fun hb18 => ?_)
                  · skip
                    refine J.call can29 rfl (fun w hC => Bytes_nil hC) rfl rfl (fun v79 => ?_)
                    refine J.andC fun hv79 => ?_
                    subst hv79
                    refine J.rd (Rd.lenR Tryd.underlying27 rfl (fun w hw => SlR.nil rfl) rfl) rfl rfl ?_
                    refine J.rd (Rd.bin' rfl rfl rfl (fun _ => rfl)) rfl rfl ?_
                    refine J.rd (Rd.pickT rfl rfl) rfl rfl ?_
                    refine J.rd (Rd.assign rfl) rfl rfl ?_
                    refine J.done ?_
                    refine J.thenN ?_
                    refine J.ret ?_
                    refine J.leave1 (.inr rfl) rfl rfl (fun w' hC => ?_)
                    refine ⟨?_, by exact St.sub hC⟩
                    clear hC
                    first | rfl | (exfalso; simp at *; omega) | (simp at *; done) | (simp at *; omega)
                  · skip
                    refine J.pass rfl rfl ?_
                    refine J.pass rfl rfl ?_
                    refine J.pass rfl rfl ?_
                    refine J.rd (Rd.pickF rfl rfl) rfl rfl ?_
                    refine J.rd (Rd.assign rfl) rfl rfl ?_
                    refine J.done ?_
                    refine J.thenN ?_
                    refine J.ret ?_
                    refine J.leave1 (.inr rfl) rfl rfl (fun w' hC => ?_)
                    refine ⟨?_, by exact St.sub hC⟩
                    clear hC
                    first | rfl | (exfalso; simp at *; omega) | (simp at *; done) | (simp at *; omega)
                · skip
                  refine J.pass rfl rfl ?_
                  refine J.pass rfl rfl ?_
                  refine J.rd (Rd.pickF rfl rfl) rfl rfl ?_
                  refine J.rd (Rd.move rfl) rfl rfl ?_
                  refine J.pass rfl rfl ?_
                  refine J.pass rfl rfl ?_
                  refine J.pass rfl rfl ?_
                  refine J.rd (Rd.pickF rfl rfl) rfl rfl ?_
                  refine J.rd (Rd.assign rfl) rfl rfl ?_
                  refine J.done ?_
                  refine J.thenN ?_
                  refine J.ret ?_
                  refine J.leave1 (.inr rfl) rfl rfl (fun w' hC => ?_)
                  refine ⟨?_, by exact St.sub hC⟩
                  clear hC
                  first | rfl | (exfalso; simp at *; omega) | (simp at *; done) | (simp at *; omega)
              · skip
                refine J.pass rfl rfl ?_
                refine J.pass rfl rfl ?_
                refine J.pass rfl rfl ?_
                refine J.pass rfl rfl ?_
                refine J.pass rfl rfl ?_
                refine J.rd (Rd.pickF rfl rfl) rfl rfl ?_
                refine J.rd (Rd.move rfl) rfl rfl ?_
                refine J.pass rfl rfl ?_
                refine J.pass rfl rfl ?_
                refine J.rd (Rd.pickF rfl rfl) rfl rfl ?_
                refine J.rd (Rd.move rfl) rfl rfl ?_
                refine J.pass rfl rfl ?_
                refine J.pass rfl rfl ?_
                refine J.pass rfl rfl ?_
                refine J.rd (Rd.pickF rfl rfl) rfl rfl ?_
                refine J.rd (Rd.assign rfl) rfl rfl ?_
                refine J.done ?_
                refine J.thenN ?_
                refine J.ret ?_
                refine J.leave1 (.inr rfl) rfl rfl (fun w' hC => ?_)
                refine ⟨?_, by exact St.sub hC⟩
                clear hC
                first | rfl | (exfalso; simp at *; omega) | (simp at *; done) | (simp at *; omega)
            · skip
              refine J.pass rfl rfl ?_
              refine J.pass rfl rfl ?_
              refine J.rd (Rd.pickF rfl rfl) rfl rfl ?_
              refine J.rd (Rd.pickF rfl rfl) rfl rfl ?_
              refine J.rd (Rd.pickT rfl rfl) rfl rfl ?_
              refine J.rd (Rd.move rfl) rfl rfl ?_
              refine J.pass rfl rfl ?_
              refine J.pass rfl rfl ?_
              refine J.pass rfl rfl ?_
              refine J.pass rfl rfl ?_
              refine J.pass rfl rfl ?_
              refine J.rd (Rd.pickF rfl rfl) rfl rfl ?_
              refine J.rd (Rd.move rfl) rfl rfl ?_
              refine J.pass rfl rfl ?_
              refine J.pass rfl rfl ?_
              refine J.rd (Rd.pickF rfl rfl) rfl rfl ?_
              refine J.rd (Rd.move rfl) rfl rfl ?_
              refine J.pass rfl rfl ?_
              refine J.pass rfl rfl ?_
              refine J.pass rfl rfl ?_
              refine J.rd (Rd.pickF rfl rfl) rfl rfl ?_
              refine J.rd (Rd.assign rfl) rfl rfl ?_
              refine J.done ?_
              refine J.thenN ?_
              refine J.ret ?_
              refine J.leave1 (.inr rfl) rfl rfl (fun w' hC => ?_)
              refine ⟨?_, by exact St.sub hC⟩
              clear hC
              first | rfl | (exfalso; simp at *; omega) | (simp at *; done) | (simp at *; omega)
          · skip
            refine J.pass rfl rfl ?_
            refine J.pass rfl rfl ?_
            refine J.pass rfl rfl ?_
            refine J.pass rfl rfl ?_
            refine J.pass rfl rfl ?_
            refine J.pass rfl rfl ?_
            refine J.pass rfl rfl ?_
            refine J.pass rfl rfl ?_
            refine J.pass rfl rfl ?_
            refine J.rd (Rd.pickF rfl rfl) rfl rfl ?_
            refine J.rd (Rd.move rfl) rfl rfl ?_
            refine J.pass rfl rfl ?_
            refine J.pass rfl rfl ?_
            refine J.pass rfl rfl ?_
            refine J.pass rfl rfl ?_
            refine J.pass rfl rfl ?_
            refine J.rd (Rd.pickF rfl rfl) rfl rfl ?_
            refine J.rd (Rd.move rfl) rfl rfl ?_
            refine J.pass rfl rfl ?_
            refine J.pass rfl rfl ?_
            refine J.rd (Rd.pickF rfl rfl) rfl rfl ?_
            refine J.rd (Rd.move rfl) rfl rfl ?_
            refine J.pass rfl rfl ?_
            refine J.pass rfl rfl ?_
            refine J.pass rfl rfl ?_
            refine J.rd (Rd.pickF rfl rfl) rfl rfl ?_
            refine J.rd (Rd.assign rfl) rfl rfl ?_
            refine J.done ?_
            refine J.thenN ?_
            refine J.ret ?_
            refine J.leave1 (.inr rfl) rfl rfl (fun w' hC => ?_)
            refine ⟨?_, by exact St.sub hC⟩
            clear hC
            first | rfl | (exfalso; simp at *; omega) | (simp at *; done) | (simp at *; omega)
        · skip
          refine J.pass rfl rfl ?_
          refine J.pass rfl rfl ?_
          refine J.pass rfl rfl ?_
          refine J.pass rfl rfl ?_
          refine J.rd (Rd.pickF rfl rfl) rfl rfl ?_
          refine J.rd (Rd.move rfl) rfl rfl ?_
          refine J.pass rfl rfl ?_
          refine J.pass rfl rfl ?_
          refine J.pass rfl rfl ?_
          refine J.pass rfl rfl ?_
          refine J.pass rfl rfl ?_
          refine J.pass rfl rfl ?_
          refine J.pass rfl rfl ?_
          refine J.pass rfl rfl ?_
          refine J.pass rfl rfl ?_
          refine J.rd (Rd.pickF rfl rfl) rfl rfl ?_
          refine J.rd (Rd.move rfl) rfl rfl ?_
          refine J.pass rfl rfl ?_
          refine J.pass rfl rfl ?_
          refine J.pass rfl rfl ?_
          refine J.pass rfl rfl ?_
          refine J.pass rfl rfl ?_
          refine J.rd (Rd.pickF rfl rfl) rfl rfl ?_
          refine J.rd (Rd.move rfl) rfl rfl ?_
          refine J.pass rfl rfl ?_
          refine J.pass rfl rfl ?_
          refine J.rd (Rd.pickF rfl rfl) rfl rfl ?_
          refine J.rd (Rd.move rfl) rfl rfl ?_
          refine J.pass rfl rfl ?_
          refine J.pass rfl rfl ?_
          refine J.pass rfl rfl ?_
          refine J.rd (Rd.pickF rfl rfl) rfl rfl ?_
          refine J.rd (Rd.assign rfl) rfl rfl ?_
          refine J.done ?_
          refine J.thenN ?_
          refine J.ret ?_
          refine J.leave1 (.inr rfl) rfl rfl (fun w' hC => ?_)
          refine ⟨?_, by exact St.sub hC⟩
          clear hC
          first | rfl | (exfalso; simp at *; omega) | (simp at *; done) | (simp at *; omega)
end Go.Proofs.YtdpfdpmjnifanaaDoor.Wargs
