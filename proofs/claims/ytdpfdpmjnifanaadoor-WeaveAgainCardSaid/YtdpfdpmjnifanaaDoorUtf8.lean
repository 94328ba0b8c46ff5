/- unicode/utf8.AppendRune, and strings.Builder's WriteRune, WriteString, at runes that may be. -/
import Derived.Test.YtdpfdpmjnifanaaDoorProg
import Derived.KernelRfl
import Derived.Test.YtdpfdpmjnifanaaDoorStr
import Derived.Test.YtdpfdpmjnifanaaDoorRunePure
import Derived.Test.YtdpfdpmjnifanaaDoorBuilder
namespace Go.Proofs.YtdpfdpmjnifanaaDoor.Utf8
open Go Go.RowKit Go.Sb
set_option maxRecDepth 100000
set_option linter.unusedVariables false
set_option linter.unusedSimpArgs false
theorem mixed : Tryd.prog.follows .mixedOrders = true := by kernel_rfl
theorem ti5 : TI Tryd.prog 5 1 1 (.int .u8 0) := TI.of (by kernel_rfl)
theorem ti27 : TI Tryd.prog 27 1 24 (.slice none 0 0) := TI.of (by kernel_rfl)
theorem fd105_1 : FD Tryd.prog 105 1 1 := FD.of Tryd.underlying105 (by kernel_rfl)
theorem can72 : Callable Tryd.prog 72 := ⟨Tryd.f72, Tryd.func72, by kernel_rfl, by kernel_rfl⟩
theorem can100 : Callable Tryd.prog 100 := ⟨Tryd.f100, Tryd.func100, by kernel_rfl, by kernel_rfl⟩
theorem can120 : Callable Tryd.prog 120 := ⟨Tryd.f120, Tryd.func120, by kernel_rfl, by kernel_rfl⟩

theorem appendRuneNonASCII {Z w : World} {Lf : List HP} {v : Value} {n r : Nat} {xs : List Value} (h0 : 128 ≤ r) (h1 : r ≤ 1114111) (h2 : r < 55296 ∨ 57343 < r) (hn : n ≤ 70368744177664) (hst : St Z w (own 5 1 v n xs :: Lf)) : Calls Tryd.prog 120 #[v, .int .i32 r] w (Ret fun v' w' => ∃ b c, v' = .slice b (n + (runeB r).length) c ∧ St Z w' (own 5 1 v' (n + (runeB r).length) (xs ++ bytesV (runeB r)) :: Lf)) := by
  refine J.enter (N := 78) (l := [v, .int .i32 r]) (C := Sto Z (own 5 1 v n xs :: Lf)) Tryd.func120 rfl Tryd.ntmps120 (by simp) (hst) ?_
  refine J.seq ?_
  refine J.region ?_
  refine J.rd (Rd.assign rfl) rfl rfl ?_
  refine J.done ?_
  refine J.thenN ?_
  refine J.seq ?_
  refine J.region ?_
  refine J.rd (Rd.move rfl) rfl rfl ?_
  refine J.rd (Rd.convI rfl Tryd.underlying21 Tryd.underlying173) rfl rfl ?_
  first | refine J.val (wU32 ⟨by omega, by omega⟩) ?_ | skip
  refine J.rd (Rd.assign rfl) rfl rfl ?_
  refine J.done ?_
  refine J.thenN ?_
  refine J.block ?_
  refine J.seq ?_
  refine J.region ?_
  refine J.rd (Rd.move rfl) rfl rfl ?_
  refine J.rd (Rd.bin' rfl rfl rfl (fun _ => rfl)) rfl rfl ?_
  refine J.rd (Rd.assign rfl) rfl rfl ?_
  refine J.done ?_
  refine J.thenN ?_
  refine J.cond rfl (fun hb1 => ?_) (fun hb1 => ?_)
  · skip
    refine J.seq ?_
    refine J.region ?_
    refine J.rd (Rd.move rfl) rfl rfl ?_
    refine J.rd (Rd.move rfl) rfl rfl ?_
    refine J.rd (Rd.shr (n := 6) rfl rfl (by first | rfl | omega) (by first | decide | omega | (show _ ≤ 64; omega) | (show _ ≤ 32; omega))) rfl rfl ?_
    refine J.rd (Rd.convI rfl Tryd.underlying21 Tryd.underlying5) rfl rfl ?_
    first | refine J.val (wU8 ⟨by omega, by omega⟩) ?_ | skip
    refine J.rd (Rd.bit rfl rfl rfl) rfl rfl ?_
    refine J.rd (Rd.move rfl) rfl rfl ?_
    refine J.rd (Rd.convI rfl Tryd.underlying21 Tryd.underlying5) rfl rfl ?_
    first | refine J.val (wU8 ⟨by omega, by omega⟩) ?_ | skip
    refine J.rd (Rd.bit rfl rfl rfl) rfl rfl ?_
    refine J.rd (Rd.bit rfl rfl rfl) rfl rfl ?_
    refine J.litA (xs := [.tmp 18, .tmp 22]) ti5 Tryd.underlying27 rfl (by simp [Value.cells]) rfl (by decide) rfl rfl rfl (fun b23 => ?_)
    refine J.appB ti5 Tryd.underlying27 rfl rfl rfl (by simp [Value.oneCell']) (by omega) (by omega) rfl rfl rfl (fun b24 c24 => ?_)
    refine J.rd (Rd.assign rfl) rfl rfl ?_
    refine J.done ?_
    refine J.thenN ?_
    refine J.ret ?_
    refine J.blockR ?_
    refine J.leave1 (.inr rfl) rfl rfl (fun w' hC => ?_)
    obtain ⟨e1, e2⟩ := runeB_2 (r := r) (by simp at hb1; omega) (by simp at hb1; omega)
    rw [e1, e2]
    exact ⟨_, _, rfl, hC⟩
  · skip
    refine J.seq ?_
    refine J.seq ?_
    refine J.region ?_
    refine J.rd (Rd.move rfl) rfl rfl ?_
    refine J.rd (Rd.bin' rfl rfl rfl (fun _ => rfl)) rfl rfl ?_
    refine J.rd (Rd.assign rfl) rfl rfl ?_
    refine J.done ?_
    refine J.thenN ?_
    refine J.cond rfl (fun hb2 => ?_) (fun hb2 => ?_)
    · skip
      refine J.skip ?_
      refine J.thenN ?_
      refine J.cond rfl (fun hb3 => ?_) (fun hb3 => ?_)
      · skip
        refine J.seq ?_
        refine J.region ?_
        refine J.rd (Rd.move rfl) rfl rfl ?_
        refine J.rd (Rd.move rfl) rfl rfl ?_
        refine J.rd (Rd.shr (n := 12) rfl rfl (by first | rfl | omega) (by first | decide | omega | (show _ ≤ 64; omega) | (show _ ≤ 32; omega))) rfl rfl ?_
        refine J.rd (Rd.convI rfl Tryd.underlying21 Tryd.underlying5) rfl rfl ?_
        first | refine J.val (wU8 ⟨by omega, by omega⟩) ?_ | skip
        refine J.rd (Rd.bit rfl rfl rfl) rfl rfl ?_
        refine J.rd (Rd.move rfl) rfl rfl ?_
        refine J.rd (Rd.shr (n := 6) rfl rfl (by first | rfl | omega) (by first | decide | omega | (show _ ≤ 64; omega) | (show _ ≤ 32; omega))) rfl rfl ?_
        refine J.rd (Rd.convI rfl Tryd.underlying21 Tryd.underlying5) rfl rfl ?_
        first | refine J.val (wU8 ⟨by omega, by omega⟩) ?_ | skip
        refine J.rd (Rd.bit rfl rfl rfl) rfl rfl ?_
        refine J.rd (Rd.bit rfl rfl rfl) rfl rfl ?_
        refine J.rd (Rd.move rfl) rfl rfl ?_
        refine J.rd (Rd.convI rfl Tryd.underlying21 Tryd.underlying5) rfl rfl ?_
        first | refine J.val (wU8 ⟨by omega, by omega⟩) ?_ | skip
        refine J.rd (Rd.bit rfl rfl rfl) rfl rfl ?_
        refine J.rd (Rd.bit rfl rfl rfl) rfl rfl ?_
        refine J.litA (xs := [.tmp 38, .tmp 43, .tmp 47]) ti5 Tryd.underlying27 rfl (by simp [Value.cells]) rfl (by decide) rfl rfl rfl (fun b48 => ?_)
        refine J.appB ti5 Tryd.underlying27 rfl rfl rfl (by simp [Value.oneCell']) (by omega) (by omega) rfl rfl rfl (fun b49 c49 => ?_)
        refine J.rd (Rd.assign rfl) rfl rfl ?_
        refine J.done ?_
        refine J.thenN ?_
        refine J.ret ?_
        refine J.blockR ?_
        refine J.leave1 (.inr rfl) rfl rfl (fun w' hC => ?_)
        obtain ⟨e1, e2⟩ := runeB_3 (r := r) (by simp at hb1 hb2; omega) (by simp at hb1 hb2; omega)
        rw [e1, e2]
        exact ⟨_, _, rfl, hC⟩
      · skip
        rw [hb2] at hb3; cases hb3
    · skip
      refine J.region ?_
      refine J.rd (Rd.move rfl) rfl rfl ?_
      refine J.rd (Rd.bin' rfl rfl rfl (fun _ => rfl)) rfl rfl ?_
      refine J.rd (Rd.move rfl) rfl rfl ?_
      refine J.bcase (fun hb4 => ?_) (fun hb4 => ?_)
      · skip
        refine J.rd (Rd.move rfl) rfl rfl ?_
        refine J.rd (Rd.bin' rfl rfl rfl (fun _ => rfl)) rfl rfl ?_
        refine J.rd (Rd.pickT rfl rfl) rfl rfl ?_
        refine J.rd (Rd.assign rfl) rfl rfl ?_
        refine J.done ?_
        refine J.thenN ?_
        refine J.cond rfl (fun hb5 => ?_) (fun hb5 => ?_)
        · skip
          refine J.seq ?_
          refine J.region ?_
          refine J.rd (Rd.move rfl) rfl rfl ?_
          refine J.rd (Rd.move rfl) rfl rfl ?_
          refine J.rd (Rd.shr (n := 12) rfl rfl (by first | rfl | omega) (by first | decide | omega | (show _ ≤ 64; omega) | (show _ ≤ 32; omega))) rfl rfl ?_
          refine J.rd (Rd.convI rfl Tryd.underlying21 Tryd.underlying5) rfl rfl ?_
          first | refine J.val (wU8 ⟨by omega, by omega⟩) ?_ | skip
          refine J.rd (Rd.bit rfl rfl rfl) rfl rfl ?_
          refine J.rd (Rd.move rfl) rfl rfl ?_
          refine J.rd (Rd.shr (n := 6) rfl rfl (by first | rfl | omega) (by first | decide | omega | (show _ ≤ 64; omega) | (show _ ≤ 32; omega))) rfl rfl ?_
          refine J.rd (Rd.convI rfl Tryd.underlying21 Tryd.underlying5) rfl rfl ?_
          first | refine J.val (wU8 ⟨by omega, by omega⟩) ?_ | skip
          refine J.rd (Rd.bit rfl rfl rfl) rfl rfl ?_
          refine J.rd (Rd.bit rfl rfl rfl) rfl rfl ?_
          refine J.rd (Rd.move rfl) rfl rfl ?_
          refine J.rd (Rd.convI rfl Tryd.underlying21 Tryd.underlying5) rfl rfl ?_
          first | refine J.val (wU8 ⟨by omega, by omega⟩) ?_ | skip
          refine J.rd (Rd.bit rfl rfl rfl) rfl rfl ?_
          refine J.rd (Rd.bit rfl rfl rfl) rfl rfl ?_
          refine J.litA (xs := [.tmp 38, .tmp 43, .tmp 47]) ti5 Tryd.underlying27 rfl (by simp [Value.cells]) rfl (by decide) rfl rfl rfl (fun b48 => ?_)
          refine J.appB ti5 Tryd.underlying27 rfl rfl rfl (by simp [Value.oneCell']) (by omega) (by omega) rfl rfl rfl (fun b49 c49 => ?_)
          refine J.rd (Rd.assign rfl) rfl rfl ?_
          refine J.done ?_
          refine J.thenN ?_
          refine J.ret ?_
          refine J.blockR ?_
          refine J.leave1 (.inr rfl) rfl rfl (fun w' hC => ?_)
          obtain ⟨e1, e2⟩ := runeB_3 (r := r) (by simp at hb1 hb5; omega) (by simp at hb1 hb5; omega)
          rw [e1, e2]
          exact ⟨_, _, rfl, hC⟩
        · skip
          refine J.seq ?_
          refine J.region ?_
          refine J.rd (Rd.move rfl) rfl rfl ?_
          refine J.rd (Rd.bin' rfl rfl rfl (fun _ => rfl)) rfl rfl ?_
          refine J.rd (Rd.move rfl) rfl rfl ?_
          refine J.bcase (fun hb6 => ?_) (fun hb6 => ?_)
          · skip
            refine J.rd (Rd.move rfl) rfl rfl ?_
            refine J.rd (Rd.bin' rfl rfl rfl (fun _ => rfl)) rfl rfl ?_
            refine J.rd (Rd.pickT rfl rfl) rfl rfl ?_
            refine J.rd (Rd.assign rfl) rfl rfl ?_
            refine J.done ?_
            refine J.thenN ?_
            refine J.cond rfl (fun hb7 => ?_) (fun hb7 => ?_)
            · skip
              refine J.seq ?_
              refine J.region ?_
              refine J.rd (Rd.move rfl) rfl rfl ?_
              refine J.rd (Rd.move rfl) rfl rfl ?_
              refine J.rd (Rd.shr (n := 18) rfl rfl (by first | rfl | omega) (by first | decide | omega | (show _ ≤ 64; omega) | (show _ ≤ 32; omega))) rfl rfl ?_
              refine J.rd (Rd.convI rfl Tryd.underlying21 Tryd.underlying5) rfl rfl ?_
              first | refine J.val (wU8 ⟨by omega, by omega⟩) ?_ | skip
              refine J.rd (Rd.bit rfl rfl rfl) rfl rfl ?_
              refine J.rd (Rd.move rfl) rfl rfl ?_
              refine J.rd (Rd.shr (n := 12) rfl rfl (by first | rfl | omega) (by first | decide | omega | (show _ ≤ 64; omega) | (show _ ≤ 32; omega))) rfl rfl ?_
              refine J.rd (Rd.convI rfl Tryd.underlying21 Tryd.underlying5) rfl rfl ?_
              first | refine J.val (wU8 ⟨by omega, by omega⟩) ?_ | skip
              refine J.rd (Rd.bit rfl rfl rfl) rfl rfl ?_
              refine J.rd (Rd.bit rfl rfl rfl) rfl rfl ?_
              refine J.rd (Rd.move rfl) rfl rfl ?_
              refine J.rd (Rd.shr (n := 6) rfl rfl (by first | rfl | omega) (by first | decide | omega | (show _ ≤ 64; omega) | (show _ ≤ 32; omega))) rfl rfl ?_
              refine J.rd (Rd.convI rfl Tryd.underlying21 Tryd.underlying5) rfl rfl ?_
              first | refine J.val (wU8 ⟨by omega, by omega⟩) ?_ | skip
              refine J.rd (Rd.bit rfl rfl rfl) rfl rfl ?_
              refine J.rd (Rd.bit rfl rfl rfl) rfl rfl ?_
              refine J.rd (Rd.move rfl) rfl rfl ?_
              refine J.rd (Rd.convI rfl Tryd.underlying21 Tryd.underlying5) rfl rfl ?_
              first | refine J.val (wU8 ⟨by omega, by omega⟩) ?_ | skip
              refine J.rd (Rd.bit rfl rfl rfl) rfl rfl ?_
              refine J.rd (Rd.bit rfl rfl rfl) rfl rfl ?_
              refine J.litA (xs := [.tmp 61, .tmp 66, .tmp 71, .tmp 75]) ti5 Tryd.underlying27 rfl (by simp [Value.cells]) rfl (by decide) rfl rfl rfl (fun b76 => ?_)
              refine J.appB ti5 Tryd.underlying27 rfl rfl rfl (by simp [Value.oneCell']) (by omega) (by omega) rfl rfl rfl (fun b77 c77 => ?_)
              refine J.rd (Rd.assign rfl) rfl rfl ?_
              refine J.done ?_
              refine J.thenN ?_
              refine J.ret ?_
              refine J.blockR ?_
              refine J.leave1 (.inr rfl) rfl rfl (fun w' hC => ?_)
              obtain ⟨e1, e2⟩ := runeB_4 (r := r) (by simp at hb1 hb5; omega) (by simp at hb1 hb5; omega)
              have e3 : IntKind.u8.wrap ((r : Int) / 2 ^ 18) = (r : Int) / 2 ^ 18 := IntWalk.u8_in _ (by omega)
              rw [e3] at e2
              rw [e1, e2]
              exact ⟨_, _, rfl, hC⟩
            · skip
              simp at hb7; omega
          · skip
            simp at hb5 hb6; omega
      · skip
        simp at hb2 hb4; omega

theorem AppendRune {Z w : World} {Lf : List HP} {v : Value} {n r : Nat} {xs : List Value} (h1 : r ≤ 1114111) (h2 : r < 55296 ∨ 57343 < r) (hn : n ≤ 70368744177664) (hst : St Z w (own 5 1 v n xs :: Lf)) : Calls Tryd.prog 100 #[v, .int .i32 r] w (Ret fun v' w' => ∃ b c, v' = .slice b (n + (runeB r).length) c ∧ St Z w' (own 5 1 v' (n + (runeB r).length) (xs ++ bytesV (runeB r)) :: Lf)) := by
  refine J.enter (N := 16) (l := [v, .int .i32 r]) (C := Sto Z (own 5 1 v n xs :: Lf)) Tryd.func100 rfl Tryd.ntmps100 (by simp) (hst) ?_
  refine J.seq ?_
  refine J.region ?_
  refine J.rd (Rd.assign rfl) rfl rfl ?_
  refine J.done ?_
  refine J.thenN ?_
  refine J.seq ?_
  refine J.seq ?_
  refine J.region ?_
  refine J.rd (Rd.move rfl) rfl rfl ?_
  refine J.rd (Rd.convI rfl Tryd.underlying21 Tryd.underlying173) rfl rfl ?_
  first | refine J.val (wU32 ⟨by omega, by omega⟩) ?_ | skip
  refine J.rd (Rd.bin' rfl rfl rfl (fun _ => rfl)) rfl rfl ?_
  refine J.done ?_
  refine J.thenN ?_
  refine J.cond rfl (fun hb1 => ?_) (fun hb1 => ?_)
  · skip
    refine J.seq ?_
    refine J.region ?_
    refine J.rd (Rd.move rfl) rfl rfl ?_
    refine J.rd (Rd.move rfl) rfl rfl ?_
    refine J.rd (Rd.convI rfl Tryd.underlying21 Tryd.underlying5) rfl rfl ?_
    first | refine J.val (wU8 ⟨by omega, by omega⟩) ?_ | skip
    refine J.lit1 ti5 Tryd.underlying27 rfl rfl rfl rfl rfl (fun b11 => ?_)
    refine J.app1 ti5 Tryd.underlying27 rfl rfl rfl (by omega) (by omega) rfl rfl rfl (fun b12 c12 => ?_)
    refine J.rd (Rd.assign rfl) rfl rfl ?_
    refine J.done ?_
    refine J.thenN ?_
    refine J.ret ?_
    refine J.thenR ?_
    refine J.leave1 (.inr rfl) rfl rfl (fun w' hC => ?_)
    have e := runeB_1 (r := r) (by simp at hb1; omega)
    rw [e]
    refine ⟨_, _, rfl, ?_⟩
    have e2 : bytesV [UInt8.ofNat r] = [.int .u8 (r : Int)] := by simp only [bytesV, List.map_cons, List.map_nil]; rw [ofN _ (by simp at hb1; omega)]
    rw [e2]
    have e3 : IntKind.u8.wrap (r : Int) = r := IntWalk.u8_in _ (by simp at hb1; omega)
    rw [e3] at hC
    exact hC
  · skip
    refine J.skip ?_
    refine J.thenN ?_
    refine J.seq ?_
    refine J.region ?_
    refine J.rd (Rd.move rfl) rfl rfl ?_
    refine J.rd (Rd.move rfl) rfl rfl ?_
    refine J.call can120 rfl (fun w hC => appendRuneNonASCII (r := r) (by simp at hb1; omega) h1 h2 hn hC) rfl rfl (fun v15 => ?_)
    refine J.rd (Rd.assign rfl) rfl rfl ?_
    refine J.done ?_
    refine J.thenN ?_
    refine J.ret ?_
    refine J.leave1 (.inr rfl) rfl rfl (fun w' hC => ?_)
    exact hC

theorem WriteRune {Z w : World} {Lf : List HP} {p n r : Nat} {A v : Value} {xs : List Value} (hA : Builder.Adr p A) (h1 : r ≤ 1114111) (h2 : r < 55296 ∨ 57343 < r) (hn : n ≤ 70368744177664) (hst : St Z w (pts p (.cells [A, v].toArray 105 (0, 0)) :: own 5 1 v n xs :: Lf)) : Calls Tryd.prog 70 #[.pointer (some ⟨p, 0, none⟩), .int .i32 r] w (Ret fun _ w' => ∃ v', St Z w' (pts p (.cells [.pointer (some ⟨p, 0, none⟩), v'].toArray 105 (0, 0)) :: own 5 1 v' (n + (runeB r).length) (xs ++ bytesV (runeB r)) :: Lf)) := by
  refine J.enter (N := 30) (l := [.pointer (some ⟨p, 0, none⟩), .int .i32 r]) (C := Sto Z (pts p (.cells [A, v].toArray 105 (0, 0)) :: own 5 1 v n xs :: Lf)) Tryd.func70 rfl Tryd.ntmps70 (by simp) (hst) ?_
  refine J.seq ?_
  refine J.region ?_
  refine J.rd (Rd.assign rfl) rfl rfl ?_
  refine J.rd (Rd.assign rfl) rfl rfl ?_
  refine J.done ?_
  refine J.thenN ?_
  refine J.seq ?_
  refine J.region ?_
  refine J.rd (Rd.move rfl) rfl rfl ?_
  refine J.call can72 rfl (fun w hC => Builder.copyCheck hA hC) rfl rfl (fun v8 => ?_)
  refine J.done ?_
  refine J.thenN ?_
  refine J.seq ?_
  refine J.region ?_
  refine J.rd (Rd.move rfl) rfl rfl ?_
  refine J.rd (Rd.nilCheck rfl) rfl rfl ?_
  refine J.rd (Rd.fld fd105_1 rfl) rfl rfl ?_
  refine J.rd (Rd.ld Tryd.underlying27 rfl rfl rfl) rfl rfl ?_
  refine J.rd (Rd.lenOwn rfl rfl Tryd.underlying27) rfl rfl ?_
  refine J.rd (Rd.assign rfl) rfl rfl ?_
  refine J.done ?_
  refine J.thenN ?_
  refine J.seq ?_
  refine J.region ?_
  refine J.rd (Rd.move rfl) rfl rfl ?_
  refine J.rd (Rd.move rfl) rfl rfl ?_
  refine J.rd (Rd.nilCheck rfl) rfl rfl ?_
  refine J.rd (Rd.fld fd105_1 rfl) rfl rfl ?_
  refine J.rd (Rd.ld Tryd.underlying27 rfl rfl rfl) rfl rfl ?_
  refine J.rd (Rd.move rfl) rfl rfl ?_
  refine J.call can100 rfl (fun w hC => AppendRune h1 h2 hn (hC.pullO v)) rfl rfl (fun v20 => ?_)
  refine J.exC fun b20 => J.exC fun c20 => J.andC fun hv20 => ?_
  subst hv20
  refine J.rd (Rd.nilCheck rfl) rfl rfl ?_
  refine J.rd (Rd.fld fd105_1 rfl) rfl rfl ?_
  refine J.sto ti27 rfl rfl rfl rfl ?_
  refine J.done ?_
  refine J.thenN ?_
  refine J.seq ?_
  refine J.region ?_
  refine J.rd (Rd.move rfl) rfl rfl ?_
  refine J.rd (Rd.nilCheck rfl) rfl rfl ?_
  refine J.rd (Rd.fld fd105_1 rfl) rfl rfl ?_
  refine J.rd (Rd.ld Tryd.underlying27 rfl rfl rfl) rfl rfl ?_
  refine J.rd (Rd.lenOwn rfl rfl Tryd.underlying27) rfl rfl ?_
  refine J.rd (Rd.move rfl) rfl rfl ?_
  refine J.rd (Rd.bin' rfl rfl rfl (fun _ => rfl)) rfl rfl ?_
  first | refine J.val (wI64 ⟨by omega, by omega⟩) ?_ | skip
  refine J.rd (Rd.assign rfl) rfl rfl ?_
  refine J.rd (Rd.assign rfl) rfl rfl ?_
  refine J.done ?_
  refine J.thenN ?_
  refine J.ret ?_
  refine J.leave2 (.inr rfl) rfl rfl rfl (fun w' hC => ?_)
  exact ⟨_, St.pullP p hC⟩
end Go.Proofs.YtdpfdpmjnifanaaDoor.Utf8
