/- strings.Builder, method by method, over the parts of a heap. -/
import Derived.Test.YtdpfdpmjnifanaaDoorProg
import Derived.KernelRfl
import Derived.Test.YtdpfdpmjnifanaaDoorStr
namespace Go.Proofs.YtdpfdpmjnifanaaDoor.Builder
open Go Go.RowKit Go.Sb
set_option maxRecDepth 100000
set_option linter.unusedVariables false
set_option linter.unusedSimpArgs false
theorem mixed : Tryd.prog.follows .mixedOrders = true := by kernel_rfl
theorem ti5 : TI Tryd.prog 5 1 1 (.int .u8 0) := TI.of (by kernel_rfl)
theorem ti27 : TI Tryd.prog 27 1 24 (.slice none 0 0) := TI.of (by kernel_rfl)
theorem ti103 : TI Tryd.prog 103 1 8 (.pointer none) := TI.of (by kernel_rfl)
theorem ti105 : TI Tryd.prog 105 2 32 (.agg #[.pointer none, .slice none 0 0]) := TI.of (by kernel_rfl)
theorem fd105_0 : FD Tryd.prog 105 0 0 := FD.of Tryd.underlying105 (by kernel_rfl)
theorem fd105_1 : FD Tryd.prog 105 1 1 := FD.of Tryd.underlying105 (by kernel_rfl)
theorem can72 : Callable Tryd.prog 72 := ⟨Tryd.f72, Tryd.func72, by kernel_rfl, by kernel_rfl⟩

theorem isne : IsNoEscape Tryd.prog 101 := ⟨Tryd.f101, Tryd.func101, by kernel_rfl, by kernel_rfl, by kernel_rfl, by kernel_rfl⟩
theorem copyCheck_fresh {Z w : World} {Lf : List HP} {p : Nat} {v : Value} (hst : St Z w (pts p (.cells [.pointer none, v].toArray 105 (0, 0)) :: Lf)) : Calls Tryd.prog 72 #[.pointer (some ⟨p, 0, none⟩)] w (Ret fun _ w' => St Z w' (pts p (.cells [.pointer (some ⟨p, 0, none⟩), v].toArray 105 (0, 0)) :: Lf)) := by
  refine J.enter (N := 20) (l := [.pointer (some ⟨p, 0, none⟩)]) (C := Sto Z (pts p (.cells [.pointer none, v].toArray 105 (0, 0)) :: Lf)) Tryd.func72 rfl Tryd.ntmps72 (by simp) (hst) ?_
  refine J.seq ?_
  refine J.region ?_
  refine J.rd (Rd.move rfl) rfl rfl ?_
  refine J.rd (Rd.nilCheck rfl) rfl rfl ?_
  refine J.rd (Rd.fld fd105_0 rfl) rfl rfl ?_
  refine J.rd (Rd.ld Tryd.underlying103 rfl rfl rfl) rfl rfl ?_
  refine J.rd (Rd.nilEq Tryd.underlying103 rfl) rfl rfl ?_
  refine J.done ?_
  refine J.thenN ?_
  refine J.cond rfl (fun hb1 => ?_) (fun hb1 => ?_)
  · skip
    refine J.region ?_
    refine J.rd (Rd.move rfl) rfl rfl ?_
    refine J.rd (Rd.move rfl) rfl rfl ?_
    refine J.rd (Rd.toUnsafe ti105 Tryd.underlying103 Tryd.underlying159 rfl (by decide) (by simp)) rfl rfl ?_
    refine J.rd (Rd.noEscape isne rfl) rfl rfl ?_
    refine J.rd (Rd.fromUnsafe ti105 Tryd.underlying159 Tryd.underlying103 rfl (by kernel_rfl)) rfl rfl ?_
    refine J.rd (Rd.nilCheck rfl) rfl rfl ?_
    refine J.rd (Rd.fld fd105_0 rfl) rfl rfl ?_
    refine J.sto ti103 rfl rfl rfl rfl ?_
    refine J.done ?_
    refine J.leave0 (.inl rfl) rfl (fun w' hC => ?_)
    exact hC
  · skip
    cases hb1

theorem copyCheck_used {Z w : World} {Lf : List HP} {p : Nat} {v : Value} (hst : St Z w (pts p (.cells [.pointer (some ⟨p, 0, none⟩), v].toArray 105 (0, 0)) :: Lf)) : Calls Tryd.prog 72 #[.pointer (some ⟨p, 0, none⟩)] w (Ret fun _ w' => St Z w' (pts p (.cells [.pointer (some ⟨p, 0, none⟩), v].toArray 105 (0, 0)) :: Lf)) := by
  refine J.enter (N := 20) (l := [.pointer (some ⟨p, 0, none⟩)]) (C := Sto Z (pts p (.cells [.pointer (some ⟨p, 0, none⟩), v].toArray 105 (0, 0)) :: Lf)) Tryd.func72 rfl Tryd.ntmps72 (by simp) (hst) ?_
  refine J.seq ?_
  refine J.region ?_
  refine J.rd (Rd.move rfl) rfl rfl ?_
  refine J.rd (Rd.nilCheck rfl) rfl rfl ?_
  refine J.rd (Rd.fld fd105_0 rfl) rfl rfl ?_
  refine J.rd (Rd.ld Tryd.underlying103 rfl rfl rfl) rfl rfl ?_
  refine J.rd (Rd.nilEq Tryd.underlying103 rfl) rfl rfl ?_
  refine J.done ?_
  refine J.thenN ?_
  refine J.cond rfl (fun hb1 => ?_) (fun hb1 => ?_)
  · skip
    cases hb1
  · skip
    refine J.seq ?_
    refine J.region ?_
    refine J.rd (Rd.move rfl) rfl rfl ?_
    refine J.rd (Rd.nilCheck rfl) rfl rfl ?_
    refine J.rd (Rd.fld fd105_0 rfl) rfl rfl ?_
    refine J.rd (Rd.ld Tryd.underlying103 rfl rfl rfl) rfl rfl ?_
    refine J.rd (Rd.move rfl) rfl rfl ?_
    refine J.rd (Rd.neqSame ti105 Tryd.underlying103 rfl rfl) rfl rfl ?_
    refine J.done ?_
    refine J.thenN ?_
    refine J.cond rfl (fun hb2 => ?_) (fun hb2 => ?_)
    · skip
      cases hb2
    · skip
      refine J.skip ?_
      refine J.leave0 (.inl rfl) rfl (fun w' hC => ?_)
      exact hC

/-- What a builder's first field may hold. -/
def Adr (p : Nat) (A : Value) : Prop := A = .pointer none ∨ A = .pointer (some ⟨p, 0, none⟩)
theorem copyCheck {Z w : World} {Lf : List HP} {p : Nat} {A v : Value} (hA : Adr p A) (hst : St Z w (pts p (.cells [A, v].toArray 105 (0, 0)) :: Lf)) : Calls Tryd.prog 72 #[.pointer (some ⟨p, 0, none⟩)] w (Ret fun _ w' => St Z w' (pts p (.cells [.pointer (some ⟨p, 0, none⟩), v].toArray 105 (0, 0)) :: Lf)) := by
  rcases hA with rfl | rfl
  · exact copyCheck_fresh hst
  · exact copyCheck_used hst
theorem WriteByte {Z w : World} {Lf : List HP} {p n : Nat} {A v : Value} {c : Int} {xs : List Value} (hA : Adr p A) (hn : n ≤ 70368744177664) (hst : St Z w (pts p (.cells [A, v].toArray 105 (0, 0)) :: own 5 1 v n xs :: Lf)) : Calls Tryd.prog 49 #[.pointer (some ⟨p, 0, none⟩), .int .u8 c] w (Ret fun _ w' => ∃ v', St Z w' (pts p (.cells [.pointer (some ⟨p, 0, none⟩), v'].toArray 105 (0, 0)) :: own 5 1 v' (n + 1) (xs ++ [.int .u8 c]) :: Lf)) := by
  refine J.enter (N := 17) (l := [.pointer (some ⟨p, 0, none⟩), .int .u8 c]) (C := Sto Z (pts p (.cells [A, v].toArray 105 (0, 0)) :: own 5 1 v n xs :: Lf)) Tryd.func49 rfl Tryd.ntmps49 (by simp) (hst) ?_
  refine J.seq ?_
  refine J.region ?_
  refine J.rd (Rd.assign rfl) rfl rfl ?_
  refine J.done ?_
  refine J.thenN ?_
  refine J.seq ?_
  refine J.region ?_
  refine J.rd (Rd.move rfl) rfl rfl ?_
  refine J.call can72 rfl (fun w hC => copyCheck hA hC) rfl rfl (fun v6 => ?_)
  refine J.done ?_
  refine J.thenN ?_
  refine J.seq ?_
  refine J.region ?_
  refine J.rd (Rd.move rfl) rfl rfl ?_
  refine J.rd (Rd.move rfl) rfl rfl ?_
  refine J.rd (Rd.nilCheck rfl) rfl rfl ?_
  refine J.rd (Rd.fld fd105_1 rfl) rfl rfl ?_
  refine J.rd (Rd.ld Tryd.underlying27 rfl rfl rfl) rfl rfl ?_
  refine J.rd (Rd.move rfl) rfl rfl ?_
  refine J.lit1 ti5 Tryd.underlying27 rfl rfl rfl rfl rfl (fun b13 => ?_)
  refine J.app1 ti5 Tryd.underlying27 rfl rfl rfl (by omega) (by omega) rfl rfl rfl (fun b14 c14 => ?_)
  refine J.rd (Rd.nilCheck rfl) rfl rfl ?_
  refine J.rd (Rd.fld fd105_1 rfl) rfl rfl ?_
  refine J.sto ti27 rfl rfl rfl rfl ?_
  refine J.done ?_
  refine J.thenN ?_
  refine J.seq ?_
  refine J.region ?_
  refine J.rd (Rd.assign rfl) rfl rfl ?_
  refine J.done ?_
  refine J.thenN ?_
  refine J.ret ?_
  refine J.leave1 (.inr rfl) rfl rfl (fun w' hC => ?_)
  exact ⟨_, hC⟩

theorem Len {Z w : World} {Lf : List HP} {p n : Nat} {A v : Value} {xs : List Value} (hst : St Z w (pts p (.cells [A, v].toArray 105 (0, 0)) :: own 5 1 v n xs :: Lf)) : Calls Tryd.prog 50 #[.pointer (some ⟨p, 0, none⟩)] w (Ret fun r w' => r = .int .i64 n ∧ St Z w' (pts p (.cells [A, v].toArray 105 (0, 0)) :: own 5 1 v n xs :: Lf)) := by
  refine J.enter (N := 8) (l := [.pointer (some ⟨p, 0, none⟩)]) (C := Sto Z (pts p (.cells [A, v].toArray 105 (0, 0)) :: own 5 1 v n xs :: Lf)) Tryd.func50 rfl Tryd.ntmps50 (by simp) (hst) ?_
  refine J.seq ?_
  refine J.region ?_
  refine J.rd (Rd.assign rfl) rfl rfl ?_
  refine J.done ?_
  refine J.thenN ?_
  refine J.seq ?_
  refine J.region ?_
  refine J.rd (Rd.move rfl) rfl rfl ?_
  refine J.rd (Rd.nilCheck rfl) rfl rfl ?_
  refine J.rd (Rd.fld fd105_1 rfl) rfl rfl ?_
  refine J.rd (Rd.ld Tryd.underlying27 rfl rfl rfl) rfl rfl ?_
  refine J.rd (Rd.lenOwn rfl rfl Tryd.underlying27) rfl rfl ?_
  refine J.rd (Rd.assign rfl) rfl rfl ?_
  refine J.done ?_
  refine J.thenN ?_
  refine J.ret ?_
  refine J.leave1 (.inr rfl) rfl rfl (fun w' hC => ?_)
  exact ⟨rfl, hC⟩

theorem String {Z w : World} {Lf : List HP} {p : Nat} {A v : Value} {l : List UInt8} (h63 : l.length ≤ 9223372036854775807) (hok : l = [] → v = .slice none 0 0) (hst : St Z w (pts p (.cells [A, v].toArray 105 (0, 0)) :: own 5 1 v l.length (bytesV l) :: Lf)) : Calls Tryd.prog 51 #[.pointer (some ⟨p, 0, none⟩)] w (Ret fun r w' => r = .string ⟨l.toArray⟩ ∧ St Z w' Lf) := by
  have hD : DataOk v := by
    by_cases h0 : l = []
    · exact ⟨_, _, _, hok h0, .inl rfl⟩
    · obtain ⟨L1, h1, _⟩ := St.hasO (v := v) hst
      obtain ⟨g, ⟨_, hg⟩, _⟩ := h1.part0
      have hp := List.length_pos_iff.2 h0
      rcases hg with ⟨_, h2, _⟩ | ⟨g, off, cap, cur, rfl, hn, _⟩
      · omega
      · exact ⟨_, _, _, rfl, .inr (by omega)⟩
  refine J.enter (N := 14) (l := [.pointer (some ⟨p, 0, none⟩)]) (C := Sto Z (pts p (.cells [A, v].toArray 105 (0, 0)) :: own 5 1 v l.length (bytesV l) :: Lf)) Tryd.func51 rfl Tryd.ntmps51 (by simp) (hst) ?_
  refine J.seq ?_
  refine J.region ?_
  refine J.rd (Rd.assign rfl) rfl rfl ?_
  refine J.done ?_
  refine J.thenN ?_
  refine J.seq ?_
  refine J.drawTail 10 mixed (by kernel_rfl) (fun w n h => St.drawn h n) (fun w0 => ?_)
  refine JS.rd (Rd.move rfl) rfl rfl ?_
  refine JS.rd (Rd.nilCheck rfl) rfl rfl ?_
  refine JS.rd (Rd.fld fd105_1 rfl) rfl rfl ?_
  refine JS.rd (Rd.ld Tryd.underlying27 rfl rfl rfl) rfl rfl ?_
  refine JS.rd (Rd.sliceData rfl hD) rfl rfl ?_
  refine JS.rd (Rd.move rfl) rfl rfl ?_
  refine JS.rd (Rd.nilCheck rfl) rfl rfl ?_
  refine JS.rd (Rd.fld fd105_1 rfl) rfl rfl ?_
  refine JS.rd (Rd.ld Tryd.underlying27 rfl rfl rfl) rfl rfl ?_
  refine JS.rd (Rd.lenOwn rfl rfl Tryd.underlying27) rfl rfl ?_
  refine JS.done ?_
  refine J.unsafeString (v := v) (l := l) Tryd.underlying139 (by kernel_rfl) (fun w hw => St.ownVal (v := v) hw) rfl (fun w hw => hD.of) rfl h63 rfl rfl ?_
  refine J.rd (Rd.assign rfl) rfl rfl ?_
  refine J.done ?_
  refine J.thenN ?_
  refine J.ret ?_
  refine J.leave1 (.inr rfl) rfl rfl (fun w' hC => ?_)
  exact ⟨rfl, St.dropP p hC⟩
end Go.Proofs.YtdpfdpmjnifanaaDoor.Builder
