/- weave.Block, New, NewParter, and (*Weaver).Title. -/
import Derived.Test.YtdpfdpmjnifanaaDoorProg
import Derived.KernelRfl
import Derived.Test.YtdpfdpmjnifanaaDoorStr
import Derived.Test.YtdpfdpmjnifanaaDoorBuild
import Derived.Test.YtdpfdpmjnifanaaDoorBlockPure
import Derived.Test.YtdpfdpmjnifanaaDoorTitle
namespace Go.Proofs.YtdpfdpmjnifanaaDoor.Block
open Go Go.RowKit Go.Sb
set_option maxRecDepth 100000
set_option linter.unusedVariables false
set_option linter.unusedSimpArgs false
theorem mixed : Tryd.prog.follows .mixedOrders = true := by kernel_rfl
theorem ti4 : TI Tryd.prog 4 1 1 (.bool false) := TI.of (by kernel_rfl)
theorem ti5 : TI Tryd.prog 5 1 1 (.int .u8 0) := TI.of (by kernel_rfl)
theorem ti9 : TI Tryd.prog 9 1 16 (.string .empty) := TI.of (by kernel_rfl)
theorem fd114_2 : FD Tryd.prog 114 2 2 := FD.of Tryd.underlying114 (by kernel_rfl)
theorem fd114_3 : FD Tryd.prog 114 3 3 := FD.of Tryd.underlying114 (by kernel_rfl)
theorem bd114 : BD Tryd.prog 114 [(0, 1), (1, 1), (2, 1), (3, 1)] [.int .i64 0, .int .i64 0, .string .empty, .bool false] := BD.of Tryd.underlying114 (by kernel_rfl) (by kernel_rfl)
theorem bd116 : BD Tryd.prog 116 [(0, 1), (1, 1), (2, 1), (3, 1)] [.int .i64 0, .int .i64 0, .int .i64 0, .slice none 0 0] := BD.of Tryd.underlying116 (by kernel_rfl) (by kernel_rfl)
theorem can47 : Callable Tryd.prog 47 := ⟨Tryd.f47, Tryd.func47, by kernel_rfl, by kernel_rfl⟩

theorem Block_calls {Z w : World} {Lf : List HP} (s : ByteArray) (hT : ∀ w, St Z w Lf → Lib.Utf8Tabs 1 2 w) (hs : s.size ≤ 9223372036854775807) (hst : St Z w Lf) : Calls Tryd.prog 26 #[.string s] w (Ret fun r w' => St Z w' (own 5 1 r (blockF s.data.toList).length (bytesV (blockF s.data.toList)) :: Lf)) := by
  refine J.enter (N := 25) (l := [.string s]) (C := Sto Z Lf) Tryd.func26 rfl Tryd.ntmps26 (by simp) (hst) ?_
  refine J.seq ?_
  refine J.region ?_
  refine J.rd (Rd.assign rfl) rfl rfl ?_
  refine J.done ?_
  refine J.thenN ?_
  refine J.seq ?_
  refine J.region ?_
  refine J.rd (Rd.move rfl) rfl rfl ?_
  refine J.call can47 rfl (fun w hC => Title.Title_calls s hT hs hC) rfl rfl (fun v6 => ?_)
  refine J.andC fun hv6 => ?_
  subst hv6
  have ht := titleF_le s.data.toList
  generalize hg : titleF s.data.toList = t at ht
  refine J.rd (Rd.cat rfl rfl (by first | (simp [size_mk]; done) | (simp [size_mk]; omega))) rfl rfl ?_
  refine J.rd (Rd.cat rfl rfl (by first | (simp [size_mk]; done) | (simp [size_mk]; omega))) rfl rfl ?_
  generalize htext : ({ data := #[83, 116, 114, 101, 97, 109, 84, 105, 116, 108, 101, 61, 39] } ++ { data := t.toArray } ++ { data := #[39, 59] } : ByteArray) = text
  have hl : text.size = t.length + 15 := by rw [← htext]; simp [size_mk]; omega
  have hd : text.data.toList = openB ++ t ++ shutB := by rw [← htext]; simp [openB, shutB]
  refine J.rd (Rd.assign rfl) rfl rfl ?_
  refine J.done ?_
  refine J.thenN ?_
  refine J.seq ?_
  refine J.region ?_
  refine J.rd (Rd.move rfl) rfl rfl ?_
  refine J.rd (Rd.lenStr rfl rfl Tryd.underlying9) rfl rfl ?_
  refine J.rd (Rd.bin' rfl rfl rfl (fun _ => rfl)) rfl rfl ?_
  first | refine J.val (wI64 ⟨by omega, by omega⟩) ?_ | skip
  refine J.rd (Rd.bin' rfl rfl rfl (fun _ => rfl)) rfl rfl ?_
  first | refine J.val (wI64 ⟨by omega, by omega⟩) ?_ | skip
  refine J.rd (Rd.quo rfl rfl (by first | decide | omega)) rfl rfl ?_
  first | refine J.val (wQ ⟨by omega, by omega, by omega⟩) ?_ | skip
  refine J.val (show _ = Value.int .i64 (((t.length + 30) / 16 : Nat) : Int) by congr 1; omega) ?_
  refine J.rd (Rd.assign rfl) rfl rfl ?_
  refine J.done ?_
  refine J.thenN ?_
  refine J.seq ?_
  refine J.region ?_
  refine J.rd (Rd.move rfl) rfl rfl ?_
  refine J.rd (Rd.convI rfl Tryd.underlying3 Tryd.underlying5) rfl rfl ?_
  first | refine J.val (wU8 ⟨by omega, by omega⟩) ?_ | skip
  refine J.val (show _ = Value.int .u8 ((UInt8.ofNat ((t.length + 30) / 16)).toNat : Nat) by rw [ofN _ (by omega)]) ?_
  refine J.lit1 ti5 Tryd.underlying27 rfl rfl rfl rfl rfl (fun b16 => ?_)
  refine J.ownRow (n := 1) (b := b16) rfl ?_
  refine J.rd (Rd.move rfl) rfl rfl ?_
  refine J.app (m := text.size) ti5 Tryd.underlying27 Tryd.underlying9 (.inr rfl) rfl rfl (fun w hw => Src.string) (by simp [bytesV, Value.oneCell']) (by omega) (by omega) rfl (by omega) rfl rfl (fun b18 c18 => ?_)
  refine J.rd (Rd.move rfl) rfl rfl ?_
  refine J.rd (Rd.bin' rfl rfl rfl (fun _ => rfl)) rfl rfl ?_
  first | refine J.val (wI64 ⟨by omega, by omega⟩) ?_ | skip
  refine J.rd (Rd.move rfl) rfl rfl ?_
  refine J.rd (Rd.lenStr rfl rfl Tryd.underlying9) rfl rfl ?_
  refine J.rd (Rd.bin' rfl rfl rfl (fun _ => rfl)) rfl rfl ?_
  first | refine J.val (wI64 ⟨by omega, by omega⟩) ?_ | skip
  refine J.val (show _ = Value.int .i64 (((t.length + 30) / 16 * 16 - (t.length + 15) : Nat) : Int) by congr 1; omega) ?_
  refine J.appZ ti5 Tryd.underlying27 Tryd.underlying3 rfl rfl rfl rfl (by omega) (by omega) rfl rfl (fun b24 c24 => ?_)
  refine J.rd (Rd.assign rfl) rfl rfl ?_
  refine J.done ?_
  refine J.thenN ?_
  refine J.ret ?_
  refine J.leave1 (.inr rfl) rfl rfl (fun w' hC => ?_)
  have e : blockF s.data.toList = blockOf t := by rw [blockF, hg]
  rw [e]
  have e2 : bytesV (blockOf t) = [Value.int .u8 ((UInt8.ofNat ((t.length + 30) / 16)).toNat : Nat)] ++ bytesV text.data.toList ++ List.replicate ((t.length + 30) / 16 * 16 - (t.length + 15)) (.int .u8 0) := by
    rw [hd, blockOf, bytesV_append, bytesV_append, bytesV_replicate]
    rfl
  have e3 : (blockOf t).length = 1 + text.size + ((t.length + 30) / 16 * 16 - (t.length + 15)) := by rw [blockOf_len, hl]; omega
  rw [e2, e3]
  exact hC

theorem New_calls {Z w : World} {Lf : List HP} (n : Int) (h1 : 0 ≤ n) (h2 : n ≤ 65536) (hst : St Z w Lf) : Calls Tryd.prog 23 #[.int .i64 n] w (Ret fun r w' => ∃ p, r = .tuple #[.pointer (some ⟨p, 0, none⟩), .int .i64 0] ∧ St Z w' (pts p (.cells [.int .i64 n, .int .i64 0, .string .empty, .bool false].toArray 114 (0, 0)) :: Lf)) := by
  refine J.enter (N := 13) (l := [.int .i64 n]) (C := Sto Z Lf) Tryd.func23 rfl Tryd.ntmps23 (by simp) (hst) ?_
  refine J.seq ?_
  refine J.region ?_
  refine J.rd (Rd.assign rfl) rfl rfl ?_
  refine J.rd (Rd.assign rfl) rfl rfl ?_
  refine J.done ?_
  refine J.thenN ?_
  refine J.seq ?_
  refine J.seq ?_
  refine J.region ?_
  refine J.rd (Rd.move rfl) rfl rfl ?_
  refine J.rd (Rd.bin' rfl rfl rfl (fun _ => rfl)) rfl rfl ?_
  refine J.rd (Rd.move rfl) rfl rfl ?_
  refine J.bcase (fun hb1 => ?_) (fun hb1 => ?_)
  · skip
    simp at hb1; omega
  · skip
    refine J.rd (Rd.move rfl) rfl rfl ?_
    refine J.rd (Rd.bin' rfl rfl rfl (fun _ => rfl)) rfl rfl ?_
    refine J.rd (Rd.pickF rfl rfl) rfl rfl ?_
    refine J.done ?_
    refine J.thenN ?_
    refine J.cond rfl (fun hb2 => ?_) (fun hb2 => ?_)
    · skip
      simp at hb2; omega
    · skip
      refine J.skip ?_
      refine J.thenN ?_
      refine J.seq ?_
      refine J.region ?_
      refine J.rd (Rd.move rfl) rfl rfl ?_
      refine J.rd (Rd.build (ps := [(0, .tmp 10)]) bd114 rfl rfl) rfl rfl ?_
      refine J.box rfl rfl rfl rfl (fun b12 => ?_)
      refine J.rd (Rd.assign rfl) rfl rfl ?_
      refine J.rd (Rd.assign rfl) rfl rfl ?_
      refine J.done ?_
      refine J.thenN ?_
      refine J.ret ?_
      refine J.leave2 (.inr rfl) rfl rfl rfl (fun w' hC => ?_)
      exact ⟨_, rfl, hC⟩

theorem New_bad {Z w : World} {Lf : List HP} (n : Int) (h1 : n < 0 ∨ 65536 < n) (hst : St Z w Lf) : Calls Tryd.prog 23 #[.int .i64 n] w (Ret fun r w' => r = .tuple #[.pointer none, .int .i64 1] ∧ St Z w' Lf) := by
  refine J.enter (N := 13) (l := [.int .i64 n]) (C := Sto Z Lf) Tryd.func23 rfl Tryd.ntmps23 (by simp) (hst) ?_
  refine J.seq ?_
  refine J.region ?_
  refine J.rd (Rd.assign rfl) rfl rfl ?_
  refine J.rd (Rd.assign rfl) rfl rfl ?_
  refine J.done ?_
  refine J.thenN ?_
  refine J.seq ?_
  refine J.seq ?_
  refine J.region ?_
  refine J.rd (Rd.move rfl) rfl rfl ?_
  refine J.rd (Rd.bin' rfl rfl rfl (fun _ => rfl)) rfl rfl ?_
  refine J.rd (Rd.move rfl) rfl rfl ?_
  refine J.bcase (fun hb1 => ?_) (fun hb1 => ?_)
  · skip
    refine J.pass rfl rfl ?_
    refine J.pass rfl rfl ?_
    refine J.rd (Rd.pickT rfl rfl) rfl rfl ?_
    refine J.done ?_
    refine J.thenN ?_
    refine J.condT rfl ?_
    refine J.seq ?_
    refine J.region ?_
    refine J.rd (Rd.assign rfl) rfl rfl ?_
    refine J.rd (Rd.assign rfl) rfl rfl ?_
    refine J.done ?_
    refine J.thenN ?_
    refine J.ret ?_
    refine J.thenR ?_
    refine J.leave2 (.inr rfl) rfl rfl rfl (fun w' hC => ?_)
    exact ⟨rfl, hC⟩
  · skip
    refine J.rd (Rd.move rfl) rfl rfl ?_
    refine J.rd (Rd.bin' rfl rfl rfl (fun _ => rfl)) rfl rfl ?_
    refine J.rd (Rd.pickF rfl rfl) rfl rfl ?_
    refine J.done ?_
    refine J.thenN ?_
    refine J.cond rfl (fun hb2 => ?_) (fun hb2 => ?_)
    · skip
      refine J.seq ?_
      refine J.region ?_
      refine J.rd (Rd.assign rfl) rfl rfl ?_
      refine J.rd (Rd.assign rfl) rfl rfl ?_
      refine J.done ?_
      refine J.thenN ?_
      refine J.ret ?_
      refine J.thenR ?_
      refine J.leave2 (.inr rfl) rfl rfl rfl (fun w' hC => ?_)
      exact ⟨rfl, hC⟩
    · skip
      simp at hb1 hb2; omega

theorem NewParter_calls {Z w : World} {Lf : List HP} (n : Int) (h1 : 0 ≤ n) (h2 : n ≤ 65536) (hst : St Z w Lf) : Calls Tryd.prog 24 #[.int .i64 n] w (Ret fun r w' => ∃ p, r = .tuple #[.pointer (some ⟨p, 0, none⟩), .int .i64 0] ∧ St Z w' (pts p (.cells [.int .i64 n, .int .i64 0, .int .i64 0, .slice none 0 0].toArray 116 (0, 0)) :: Lf)) := by
  refine J.enter (N := 13) (l := [.int .i64 n]) (C := Sto Z Lf) Tryd.func24 rfl Tryd.ntmps24 (by simp) (hst) ?_
  refine J.seq ?_
  refine J.region ?_
  refine J.rd (Rd.assign rfl) rfl rfl ?_
  refine J.rd (Rd.assign rfl) rfl rfl ?_
  refine J.done ?_
  refine J.thenN ?_
  refine J.seq ?_
  refine J.seq ?_
  refine J.region ?_
  refine J.rd (Rd.move rfl) rfl rfl ?_
  refine J.rd (Rd.bin' rfl rfl rfl (fun _ => rfl)) rfl rfl ?_
  refine J.rd (Rd.move rfl) rfl rfl ?_
  refine J.bcase (fun hb1 => ?_) (fun hb1 => ?_)
  · skip
    simp at hb1; omega
  · skip
    refine J.rd (Rd.move rfl) rfl rfl ?_
    refine J.rd (Rd.bin' rfl rfl rfl (fun _ => rfl)) rfl rfl ?_
    refine J.rd (Rd.pickF rfl rfl) rfl rfl ?_
    refine J.done ?_
    refine J.thenN ?_
    refine J.cond rfl (fun hb2 => ?_) (fun hb2 => ?_)
    · skip
      simp at hb2; omega
    · skip
      refine J.skip ?_
      refine J.thenN ?_
      refine J.seq ?_
      refine J.region ?_
      refine J.rd (Rd.move rfl) rfl rfl ?_
      refine J.rd (Rd.build (ps := [(0, .tmp 10)]) bd116 rfl rfl) rfl rfl ?_
      refine J.box rfl rfl rfl rfl (fun b12 => ?_)
      refine J.rd (Rd.assign rfl) rfl rfl ?_
      refine J.rd (Rd.assign rfl) rfl rfl ?_
      refine J.done ?_
      refine J.thenN ?_
      refine J.ret ?_
      refine J.leave2 (.inr rfl) rfl rfl rfl (fun w' hC => ?_)
      exact ⟨_, rfl, hC⟩

theorem NewParter_bad {Z w : World} {Lf : List HP} (n : Int) (h1 : n < 0 ∨ 65536 < n) (hst : St Z w Lf) : Calls Tryd.prog 24 #[.int .i64 n] w (Ret fun r w' => r = .tuple #[.pointer none, .int .i64 1] ∧ St Z w' Lf) := by
  refine J.enter (N := 13) (l := [.int .i64 n]) (C := Sto Z Lf) Tryd.func24 rfl Tryd.ntmps24 (by simp) (hst) ?_
  refine J.seq ?_
  refine J.region ?_
  refine J.rd (Rd.assign rfl) rfl rfl ?_
  refine J.rd (Rd.assign rfl) rfl rfl ?_
  refine J.done ?_
  refine J.thenN ?_
  refine J.seq ?_
  refine J.seq ?_
  refine J.region ?_
  refine J.rd (Rd.move rfl) rfl rfl ?_
  refine J.rd (Rd.bin' rfl rfl rfl (fun _ => rfl)) rfl rfl ?_
  refine J.rd (Rd.move rfl) rfl rfl ?_
  refine J.bcase (fun hb1 => ?_) (fun hb1 => ?_)
  · skip
    refine J.pass rfl rfl ?_
    refine J.pass rfl rfl ?_
    refine J.rd (Rd.pickT rfl rfl) rfl rfl ?_
    refine J.done ?_
    refine J.thenN ?_
    refine J.condT rfl ?_
    refine J.seq ?_
    refine J.region ?_
    refine J.rd (Rd.assign rfl) rfl rfl ?_
    refine J.rd (Rd.assign rfl) rfl rfl ?_
    refine J.done ?_
    refine J.thenN ?_
    refine J.ret ?_
    refine J.thenR ?_
    refine J.leave2 (.inr rfl) rfl rfl rfl (fun w' hC => ?_)
    exact ⟨rfl, hC⟩
  · skip
    refine J.rd (Rd.move rfl) rfl rfl ?_
    refine J.rd (Rd.bin' rfl rfl rfl (fun _ => rfl)) rfl rfl ?_
    refine J.rd (Rd.pickF rfl rfl) rfl rfl ?_
    refine J.done ?_
    refine J.thenN ?_
    refine J.cond rfl (fun hb2 => ?_) (fun hb2 => ?_)
    · skip
      refine J.seq ?_
      refine J.region ?_
      refine J.rd (Rd.assign rfl) rfl rfl ?_
      refine J.rd (Rd.assign rfl) rfl rfl ?_
      refine J.done ?_
      refine J.thenN ?_
      refine J.ret ?_
      refine J.thenR ?_
      refine J.leave2 (.inr rfl) rfl rfl rfl (fun w' hC => ?_)
      exact ⟨rfl, hC⟩
    · skip
      simp at hb1 hb2; omega

theorem WTitle_calls {Z w : World} {Lf : List HP} {p : Nat} {every n : Int} {title : ByteArray} {fresh : Bool} (s : ByteArray) (hT : ∀ w, St Z w Lf → Lib.Utf8Tabs 1 2 w) (hs : s.size ≤ 9223372036854775807) (hst : St Z w (pts p (.cells [.int .i64 every, .int .i64 n, .string title, .bool fresh].toArray 114 (0, 0)) :: Lf)) : Calls Tryd.prog 25 #[.pointer (some ⟨p, 0, none⟩), .string s] w (Ret fun _ w' => St Z w' (pts p (.cells [.int .i64 every, .int .i64 n, .string ⟨(titleF s.data.toList).toArray⟩, .bool (if titleF s.data.toList = title.data.toList then fresh else true)].toArray 114 (0, 0)) :: Lf)) := by
  refine J.enter (N := 21) (l := [.pointer (some ⟨p, 0, none⟩), .string s]) (C := Sto Z (pts p (.cells [.int .i64 every, .int .i64 n, .string title, .bool fresh].toArray 114 (0, 0)) :: Lf)) Tryd.func25 rfl Tryd.ntmps25 (by simp) (hst) ?_
  refine J.seq ?_
  refine J.seq ?_
  refine J.region ?_
  refine J.rd (Rd.move rfl) rfl rfl ?_
  refine J.rd (Rd.nilEq Tryd.underlying37 rfl) rfl rfl ?_
  refine J.done ?_
  refine J.thenN ?_
  refine J.cond rfl (fun hb1 => ?_) (fun hb1 => ?_)
  · skip
    cases hb1
  · skip
    refine J.skip ?_
    refine J.thenN ?_
    refine J.seq ?_
    refine J.region ?_
    refine J.rd (Rd.move rfl) rfl rfl ?_
    refine J.call can47 rfl (fun w hC => Title.Title_calls s (fun w hw => hT w (St.sub hw)) hs hC) rfl rfl (fun v7 => ?_)
    refine J.andC fun hv7 => ?_
    subst hv7
    refine J.rd (Rd.assign rfl) rfl rfl ?_
    refine J.done ?_
    refine J.thenN ?_
    refine J.seq ?_
    refine J.region ?_
    refine J.rd (Rd.move rfl) rfl rfl ?_
    refine J.rd (Rd.move rfl) rfl rfl ?_
    refine J.rd (Rd.nilCheck rfl) rfl rfl ?_
    refine J.rd (Rd.fld fd114_2 rfl) rfl rfl ?_
    refine J.rd (Rd.ld Tryd.underlying9 rfl rfl rfl) rfl rfl ?_
    refine J.rd (Rd.bin' rfl rfl rfl (fun _ => rfl)) rfl rfl ?_
    refine J.done ?_
    refine J.thenN ?_
    refine J.cond rfl (fun hb2 => ?_) (fun hb2 => ?_)
    · skip
      refine J.region ?_
      refine J.rd (Rd.move rfl) rfl rfl ?_
      refine J.rd (Rd.move rfl) rfl rfl ?_
      refine J.rd (Rd.move rfl) rfl rfl ?_
      refine J.rd (Rd.nilCheck rfl) rfl rfl ?_
      refine J.rd (Rd.fld fd114_2 rfl) rfl rfl ?_
      refine J.sto ti9 rfl rfl rfl rfl ?_
      refine J.rd (Rd.nilCheck rfl) rfl rfl ?_
      refine J.rd (Rd.fld fd114_3 rfl) rfl rfl ?_
      refine J.sto ti4 rfl rfl rfl rfl ?_
      refine J.done ?_
      refine J.leave0 (.inl rfl) rfl (fun w' hC => ?_)
      rw [if_neg (by simpa [ByteArray.toList_eq] using hb2)]; exact hC
    · skip
      refine J.skip ?_
      refine J.leave0 (.inl rfl) rfl (fun w' hC => ?_)
      have e : titleF s.data.toList = title.data.toList := by simpa [ByteArray.toList_eq] using hb2
      rw [if_pos e, e]
      exact hC

theorem WTitle_nil {Z w : World} {Lf : List HP} (s : ByteArray) (hst : St Z w Lf) : Calls Tryd.prog 25 #[.pointer none, .string s] w (Ret fun _ w' => St Z w' Lf) := by
  refine J.enter (N := 21) (l := [.pointer none, .string s]) (C := Sto Z Lf) Tryd.func25 rfl Tryd.ntmps25 (by simp) (hst) ?_
  refine J.seq ?_
  refine J.seq ?_
  refine J.region ?_
  refine J.rd (Rd.move rfl) rfl rfl ?_
  refine J.rd (Rd.nilEq Tryd.underlying37 rfl) rfl rfl ?_
  refine J.done ?_
  refine J.thenN ?_
  refine J.cond rfl (fun hb1 => ?_) (fun hb1 => ?_)
  · skip
    refine J.ret ?_
    refine J.thenR ?_
    refine J.leave0 (.inr rfl) rfl (fun w' hC => ?_)
    exact hC
  · skip
    cases hb1

theorem Weave_nil {Z w : World} {Lf : List HP} (v : Value) (hst : St Z w Lf) : Calls Tryd.prog 28 #[.pointer none, v] w (Ret fun r w' => r = .slice none 0 0 ∧ St Z w' Lf) := by
  refine J.enter (N := 65) (l := [.pointer none, v]) (C := Sto Z Lf) Tryd.func28 rfl Tryd.ntmps28 (by simp) (hst) ?_
  refine J.seq ?_
  refine J.region ?_
  refine J.rd (Rd.assign rfl) rfl rfl ?_
  refine J.done ?_
  refine J.thenN ?_
  refine J.seq ?_
  refine J.seq ?_
  refine J.region ?_
  refine J.rd (Rd.move rfl) rfl rfl ?_
  refine J.rd (Rd.nilEq Tryd.underlying37 rfl) rfl rfl ?_
  refine J.done ?_
  refine J.thenN ?_
  refine J.cond rfl (fun hb1 => ?_) (fun hb1 => ?_)
  · skip
    refine J.seq ?_
    refine J.region ?_
    refine J.rd (Rd.assign rfl) rfl rfl ?_
    refine J.done ?_
    refine J.thenN ?_
    refine J.ret ?_
    refine J.thenR ?_
    refine J.leave1 (.inr rfl) rfl rfl (fun w' hC => ?_)
    exact ⟨rfl, hC⟩
  · skip
    cases hb1

theorem Part_nil {Z w : World} {Lf : List HP} (v : Value) (hst : St Z w Lf) : Calls Tryd.prog 27 #[.pointer none, v] w (Ret fun r w' => r = .tuple #[.slice none 0 0, .int .i64 1] ∧ St Z w' Lf) := by
  refine J.enter (N := 104) (l := [.pointer none, v]) (C := Sto Z Lf) Tryd.func27 rfl Tryd.ntmps27 (by simp) (hst) ?_
  refine J.seq ?_
  refine J.region ?_
  refine J.rd (Rd.assign rfl) rfl rfl ?_
  refine J.rd (Rd.assign rfl) rfl rfl ?_
  refine J.done ?_
  refine J.thenN ?_
  refine J.seq ?_
  refine J.seq ?_
  refine J.region ?_
  refine J.rd (Rd.move rfl) rfl rfl ?_
  refine J.rd (Rd.nilEq Tryd.underlying40 rfl) rfl rfl ?_
  refine J.done ?_
  refine J.thenN ?_
  refine J.cond rfl (fun hb1 => ?_) (fun hb1 => ?_)
  · skip
    refine J.seq ?_
    refine J.region ?_
    refine J.rd (Rd.assign rfl) rfl rfl ?_
    refine J.rd (Rd.assign rfl) rfl rfl ?_
    refine J.done ?_
    refine J.thenN ?_
    refine J.ret ?_
    refine J.thenR ?_
    refine J.leave2 (.inr rfl) rfl rfl rfl (fun w' hC => ?_)
    exact ⟨rfl, hC⟩
  · skip
    cases hb1
end Go.Proofs.YtdpfdpmjnifanaaDoor.Block
