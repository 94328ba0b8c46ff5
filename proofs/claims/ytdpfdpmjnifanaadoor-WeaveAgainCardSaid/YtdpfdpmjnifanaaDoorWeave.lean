/- Walks. -/
import Derived.Test.YtdpfdpmjnifanaaDoorProg
import Derived.KernelRfl
import Derived.Test.YtdpfdpmjnifanaaDoorKit
import Derived.Test.YtdpfdpmjnifanaaDoorWeavePure
import Derived.Test.YtdpfdpmjnifanaaDoorBlock
namespace Go.Proofs.YtdpfdpmjnifanaaDoor.Weave
open Go Go.RowKit Go.Sb
set_option maxRecDepth 100000
set_option linter.unusedVariables false
set_option linter.unusedSimpArgs false
theorem mixed : Tryd.prog.follows .mixedOrders = true := by kernel_rfl
theorem ti3 : TI Tryd.prog 3 1 8 (.int .i64 0) := TI.of (by kernel_rfl)
theorem ti4 : TI Tryd.prog 4 1 1 (.bool false) := TI.of (by kernel_rfl)
theorem ti5 : TI Tryd.prog 5 1 1 (.int .u8 0) := TI.of (by kernel_rfl)
theorem fd114_0 : FD Tryd.prog 114 0 0 := FD.of Tryd.underlying114 (by kernel_rfl)
theorem fd114_1 : FD Tryd.prog 114 1 1 := FD.of Tryd.underlying114 (by kernel_rfl)
theorem fd114_2 : FD Tryd.prog 114 2 2 := FD.of Tryd.underlying114 (by kernel_rfl)
theorem fd114_3 : FD Tryd.prog 114 3 3 := FD.of Tryd.underlying114 (by kernel_rfl)
theorem can26 : Callable Tryd.prog 26 := ⟨Tryd.f26, Tryd.func26, by kernel_rfl, by kernel_rfl⟩

theorem weave_calls {Z w : World} {Lf : List HP} {p : Nat} {every n : Int} {title : ByteArray} {fresh : Bool} {v : Value} {blk data : List UInt8}
    (hT : ∀ w, St Z w Lf → Lib.Utf8Tabs 1 2 w) (hB : ∀ w Lf, (∀ w, St Z w Lf → Lib.Utf8Tabs 1 2 w) → St Z w Lf → Calls Tryd.prog 26 #[.string title] w (Ret fun v w' => St Z w' (own 5 1 v blk.length (bytesV blk) :: Lf))) (hbl : blk.length ≤ 1000)
    (hr : ∀ w, St Z w Lf → SlR w v (bytesV data)) (h0 : 0 ≤ n) (hn : n ≤ 1000000) (hlen : data.length ≤ 1000000) (hst : St Z w (pts p (.cells [.int .i64 every, .int .i64 n, .string title, .bool fresh].toArray 114 (0, 0)) :: Lf)) :
    Calls Tryd.prog 28 #[.pointer (some ⟨p, 0, none⟩), v] w (Ret fun r w' => St Z w' (own 5 1 r (wRun every blk n fresh data).1.length (bytesV (wRun every blk n fresh data).1) ::
      pts p (.cells [.int .i64 every, .int .i64 (wRun every blk n fresh data).2.1, .string title, .bool (wRun every blk n fresh data).2.2].toArray 114 (0, 0)) :: Lf)) := by
  refine J.enter (N := 65) (l := [.pointer (some ⟨p, 0, none⟩), v]) (C := Sto Z (pts p (.cells [.int .i64 every, .int .i64 n, .string title, .bool fresh].toArray 114 (0, 0)) :: Lf)) Tryd.func28 rfl Tryd.ntmps28 (by simp) (hst) ?_
  refine J.seq ?_
  refine J.region ?_
  refine J.rd (Rd.assign rfl) rfl rfl ?_
  refine J.done ?_
  refine J.thenN ?_
  refine J.seq ?_
  refine J.seq ?_
  refine J.region ?_
  refine J.rd (Rd.move rfl) rfl rfl ?_
  refine J.rd (Rd.nilEq Tryd.underlying37 rfl) rfl rfl ?_
  refine J.done ?_
  refine J.thenN ?_
  refine J.cond rfl (fun hb1 => ?_) (fun hb1 => ?_)
  · skip
    cases hb1
  · skip
    refine J.skip ?_
    refine J.thenN ?_
    refine J.seq ?_
    refine J.region ?_
    refine J.rd (Rd.assign rfl) rfl rfl ?_
    refine J.done ?_
    refine J.thenN ?_
    refine J.seq ?_
    refine J.seq ?_
    refine J.region ?_
    refine J.rd (Rd.move rfl) rfl rfl ?_
    refine J.rd (Rd.lenR Tryd.underlying27 rfl (fun w hw => hr w (St.sub hw)) rfl) rfl rfl ?_
    refine J.rd (Rd.move rfl) rfl rfl ?_
    refine J.done ?_
    refine J.thenN ?_
    refine J.block ?_
    refine J.loop (σ := Nat × Value) (fun s => data.length - s.1) (fun s => [(0, .pointer (some ⟨p, 0, none⟩)), (10, v), (11, .int .i64 ((bytesV data).length : Int)), (12, .int .i64 (s.1 : Int)), (5, s.2)])
      (fun s w => s.1 ≤ data.length ∧ St Z w (own 5 1 s.2 (wRun every blk n fresh (data.take s.1)).1.length (bytesV (wRun every blk n fresh (data.take s.1)).1) :: pts p (.cells [.int .i64 every, .int .i64 (wRun every blk n fresh (data.take s.1)).2.1, .string title, .bool (wRun every blk n fresh (data.take s.1)).2.2].toArray 114 (0, 0)) :: Lf)) (0, .slice none 0 0)
      (.cons rfl (.cons rfl (.cons rfl (.cons rfl (.cons rfl .nil))))) (fun w hw => ⟨Nat.zero_le _, St.ownNil 5 1 hw⟩) ?_
    rintro ⟨k, o⟩
    refine J.andC fun hk => ?_
    have hm := wRun_n (every := every) (blk := blk) (fresh := fresh) h0 (data.take k)
    generalize hR : wRun every blk n fresh (data.take k) = S at hm
    obtain ⟨out, m, fr⟩ := S
    simp only [List.length_take] at hm
    have hl2 : min k data.length * (blk.length + 2) ≤ 1000000 * 1002 := Nat.mul_le_mul (by omega) (by omega)
    simp only [hR]
    refine J.seq ?_
    refine J.region ?_
    refine J.rd (Rd.bin' rfl rfl rfl (fun _ => rfl)) rfl rfl ?_
    refine J.done ?_
    refine J.thenN ?_
    refine J.seq ?_
    refine J.cond rfl (fun hb2 => ?_) (fun hb2 => ?_)
    · skip
      refine J.skip ?_
      refine J.thenN ?_
      refine J.seq ?_
      refine J.block ?_
      refine J.seq ?_
      have hlt : k < data.length := by simp [length_bytesV] at hb2; omega
      obtain ⟨c, hc⟩ : ∃ c, data[k]? = some c := ⟨_, List.getElem?_eq_getElem hlt⟩
      refine J.region ?_
      refine J.idxR ti5 Tryd.underlying27 rfl rfl (fun w hw => hr w (St.sub hw)) (bytesV_get hc) rfl rfl (fun ad14 had14 => ?_)
      refine J.rd (Rd.load rfl Tryd.underlying5 rfl (had14)) rfl rfl ?_
      refine J.rd (Rd.assign rfl) rfl rfl ?_
      refine J.done ?_
      refine J.thenN ?_
      refine J.seq ?_
      refine J.region ?_
      refine J.rd (Rd.move rfl) rfl rfl ?_
      refine J.rd (Rd.move rfl) rfl rfl ?_
      refine J.lit1 ti5 Tryd.underlying27 rfl rfl rfl rfl rfl (fun b18 => ?_)
      refine J.app1 ti5 Tryd.underlying27 rfl rfl rfl (by omega) (by omega) rfl rfl rfl (fun b19 c19 => ?_)
      refine J.rd (Rd.assign rfl) rfl rfl ?_
      refine J.done ?_
      refine J.thenN ?_
      refine J.seq ?_
      refine J.seq ?_
      refine J.region ?_
      refine J.rd (Rd.move rfl) rfl rfl ?_
      refine J.rd (Rd.nilCheck rfl) rfl rfl ?_
      refine J.rd (Rd.fld fd114_1 rfl) rfl rfl ?_
      refine J.rd (Rd.ld Tryd.underlying3 rfl rfl rfl) rfl rfl ?_
      refine J.rd (Rd.bin' rfl rfl rfl (fun _ => rfl)) rfl rfl ?_
      first | refine J.val (wI64 ⟨by omega, by omega⟩) ?_ | skip
      refine J.rd (Rd.nilCheck rfl) rfl rfl ?_
      refine J.rd (Rd.fld fd114_1 rfl) rfl rfl ?_
      refine J.sto ti3 rfl rfl rfl rfl ?_
      refine J.done ?_
      refine J.thenN ?_
      refine J.seq ?_
      refine J.draw mixed (by kernel_rfl) (fun w n h => St.drawn h n) ?_
      refine JQ.rd (Rd.move rfl) rfl rfl ?_
      refine JQ.rd (Rd.nilCheck rfl) rfl rfl ?_
      refine JQ.rd (Rd.fld fd114_0 rfl) rfl rfl ?_
      refine JQ.rd (Rd.ld Tryd.underlying3 rfl rfl rfl) rfl rfl ?_
      refine JQ.rd (Rd.bin' rfl rfl rfl (fun _ => rfl)) rfl rfl ?_
      refine JQ.rd (Rd.move rfl) rfl rfl ?_
      refine JQ.bcase (fun hb3 => ?_) (fun hb3 => ?_)
      · skip
        refine JQ.pass rfl rfl ?_
        refine JQ.pass rfl rfl ?_
        refine JQ.pass rfl rfl ?_
        refine JQ.pass rfl rfl ?_
        refine JQ.pass rfl rfl ?_
        refine JQ.pass rfl rfl ?_
        refine JQ.pass rfl rfl ?_
        refine JQ.pass rfl rfl ?_
        refine JQ.pass rfl rfl ?_
        refine JQ.rd (Rd.pickT rfl rfl) rfl rfl ?_
        refine JQ.done ?_
        refine J.thenN ?_
        refine J.condT rfl ?_
        refine J.exit ?_
        refine J.thenE ?_
        refine J.blockE ?_
        refine J.thenN ?_
        refine J.region ?_
        refine J.rd (Rd.bin' rfl rfl rfl (fun _ => rfl)) rfl rfl ?_
        first | refine J.val (wI64 ⟨by omega, by omega⟩) ?_ | skip
        refine J.rd (Rd.move rfl) rfl rfl ?_
        refine J.done ?_
        refine J.thenN ?_
        refine J.again (k, o) (k + 1, (.slice b19 (out.length + 1) c19)) ?_ ?_ (fun w hw => ?_)
        · simp; omega
        · exact .cons rfl (.cons rfl (.cons rfl (.cons rfl (.cons rfl .nil))))
        refine ⟨by simp; omega, ?_⟩
        simp only [wRun_succ hc, hR]
        simp only [wStep]
        have e : every = 0 ∨ m + 1 < every := .inl (by simpa using hb3)
        simp only [if_pos e]
        simpa [bytesV] using hw
      · skip
        refine JQ.rd (Rd.move rfl) rfl rfl ?_
        refine JQ.rd (Rd.nilCheck rfl) rfl rfl ?_
        refine JQ.rd (Rd.fld fd114_1 rfl) rfl rfl ?_
        refine JQ.rd (Rd.ld Tryd.underlying3 rfl rfl rfl) rfl rfl ?_
        refine JQ.rd (Rd.move rfl) rfl rfl ?_
        refine JQ.rd (Rd.nilCheck rfl) rfl rfl ?_
        refine JQ.rd (Rd.fld fd114_0 rfl) rfl rfl ?_
        refine JQ.rd (Rd.ld Tryd.underlying3 rfl rfl rfl) rfl rfl ?_
        refine JQ.rd (Rd.bin' rfl rfl rfl (fun _ => rfl)) rfl rfl ?_
        refine JQ.rd (Rd.pickF rfl rfl) rfl rfl ?_
        refine JQ.done ?_
        refine J.thenN ?_
        refine J.cond rfl (fun hb4 => ?_) (fun hb4 => ?_)
        · skip
          refine J.exit ?_
          refine J.thenE ?_
          refine J.blockE ?_
          refine J.thenN ?_
          refine J.region ?_
          refine J.rd (Rd.bin' rfl rfl rfl (fun _ => rfl)) rfl rfl ?_
          first | refine J.val (wI64 ⟨by omega, by omega⟩) ?_ | skip
          refine J.rd (Rd.move rfl) rfl rfl ?_
          refine J.done ?_
          refine J.thenN ?_
          refine J.again (k, o) (k + 1, (.slice b19 (out.length + 1) c19)) ?_ ?_ (fun w hw => ?_)
          · simp; omega
          · exact .cons rfl (.cons rfl (.cons rfl (.cons rfl (.cons rfl .nil))))
          refine ⟨by simp; omega, ?_⟩
          simp only [wRun_succ hc, hR]
          simp only [wStep]
          have e : every = 0 ∨ m + 1 < every := .inr (by simpa using hb4)
          simp only [if_pos e]
          simpa [bytesV] using hw
        · skip
          refine J.skip ?_
          refine J.thenN ?_
          refine J.seq ?_
          refine J.region ?_
          refine J.rd (Rd.move rfl) rfl rfl ?_
          refine J.rd (Rd.nilCheck rfl) rfl rfl ?_
          refine J.rd (Rd.fld fd114_1 rfl) rfl rfl ?_
          refine J.sto ti3 rfl rfl rfl rfl ?_
          refine J.done ?_
          refine J.thenN ?_
          refine J.seq ?_
          refine J.seq ?_
          refine J.region ?_
          refine J.rd (Rd.move rfl) rfl rfl ?_
          refine J.rd (Rd.nilCheck rfl) rfl rfl ?_
          refine J.rd (Rd.fld fd114_3 rfl) rfl rfl ?_
          refine J.rd (Rd.ld Tryd.underlying4 rfl rfl rfl) rfl rfl ?_
          refine J.done ?_
          refine J.thenN ?_
          refine J.cond rfl (fun hb5 => ?_) (fun hb5 => ?_)
          · skip
            refine J.region ?_
            refine J.rd (Rd.move rfl) rfl rfl ?_
            refine J.rd (Rd.move rfl) rfl rfl ?_
            refine J.rd (Rd.nilCheck rfl) rfl rfl ?_
            refine J.rd (Rd.fld fd114_2 rfl) rfl rfl ?_
            refine J.rd (Rd.ld Tryd.underlying9 rfl rfl rfl) rfl rfl ?_
            refine J.call can26 rfl (fun w hC => hB _ _ (fun w hw => hT w (St.sub hw)) hC) rfl rfl (fun v55 => ?_)
            refine J.app (m := blk.length) ti5 Tryd.underlying27 Tryd.underlying27 (.inl ⟨_, rfl⟩) rfl rfl (fun w hw => Src_own hw) (by simp [bytesV, Value.oneCell']) (by omega) (by omega) rfl (by omega) rfl rfl (fun b56 c56 => ?_)
            refine J.rd (Rd.assign rfl) rfl rfl ?_
            refine J.done ?_
            refine J.thenN ?_
            refine J.region ?_
            refine J.rd (Rd.move rfl) rfl rfl ?_
            refine J.rd (Rd.nilCheck rfl) rfl rfl ?_
            refine J.rd (Rd.fld fd114_3 rfl) rfl rfl ?_
            refine J.sto ti4 rfl rfl rfl rfl ?_
            refine J.done ?_
            refine J.blockN ?_
            refine J.thenN ?_
            refine J.region ?_
            refine J.rd (Rd.bin' rfl rfl rfl (fun _ => rfl)) rfl rfl ?_
            first | refine J.val (wI64 ⟨by omega, by omega⟩) ?_ | skip
            refine J.rd (Rd.move rfl) rfl rfl ?_
            refine J.done ?_
            refine J.thenN ?_
            refine J.again (k, o) (k + 1, (.slice b56 (out.length + 1 + blk.length) c56)) ?_ ?_ (fun w hw => ?_)
            · simp; omega
            · exact .cons rfl (.cons rfl (.cons rfl (.cons rfl (.cons rfl .nil))))
            refine ⟨by simp; omega, ?_⟩
            simp only [wRun_succ hc, hR]
            simp only [wStep]
            have e : ¬ (every = 0 ∨ m + 1 < every) := by simp at hb3 hb4; omega
            simp only [if_neg e, if_pos hb5]
            have hw2 := St.dropO v55 hw
            simpa [bytesV, Nat.add_assoc, Nat.add_comm 1] using hw2
          · skip
            refine J.region ?_
            refine J.rd (Rd.move rfl) rfl rfl ?_
            refine J.lit1 ti5 Tryd.underlying27 rfl rfl rfl rfl rfl (fun b58 => ?_)
            refine J.app1 ti5 Tryd.underlying27 rfl rfl rfl (by omega) (by omega) rfl rfl rfl (fun b59 c59 => ?_)
            refine J.rd (Rd.assign rfl) rfl rfl ?_
            refine J.done ?_
            refine J.thenN ?_
            refine J.region ?_
            refine J.rd (Rd.move rfl) rfl rfl ?_
            refine J.rd (Rd.nilCheck rfl) rfl rfl ?_
            refine J.rd (Rd.fld fd114_3 rfl) rfl rfl ?_
            refine J.sto ti4 rfl rfl rfl rfl ?_
            refine J.done ?_
            refine J.blockN ?_
            refine J.thenN ?_
            refine J.region ?_
            refine J.rd (Rd.bin' rfl rfl rfl (fun _ => rfl)) rfl rfl ?_
            first | refine J.val (wI64 ⟨by omega, by omega⟩) ?_ | skip
            refine J.rd (Rd.move rfl) rfl rfl ?_
            refine J.done ?_
            refine J.thenN ?_
            refine J.again (k, o) (k + 1, (.slice b59 (out.length + 1 + 1) c59)) ?_ ?_ (fun w hw => ?_)
            · simp; omega
            · exact .cons rfl (.cons rfl (.cons rfl (.cons rfl (.cons rfl .nil))))
            refine ⟨by simp; omega, ?_⟩
            simp only [wRun_succ hc, hR]
            simp only [wStep]
            have e : ¬ (every = 0 ∨ m + 1 < every) := by simp at hb3 hb4; omega
            simp only [if_neg e, hb5]
            simpa [bytesV, Nat.add_assoc] using hw
    · skip
      refine J.exit ?_
      refine J.thenE ?_
      refine J.thenE ?_
      refine J.blockE ?_
      refine J.thenN ?_
      refine J.seq ?_
      refine J.region ?_
      refine J.rd (Rd.move rfl) rfl rfl ?_
      refine J.rd (Rd.assign rfl) rfl rfl ?_
      refine J.done ?_
      refine J.thenN ?_
      refine J.ret ?_
      refine J.leave1 (.inr rfl) rfl rfl (fun w' hC => ?_)
      have hk2 : k = data.length := by simp [length_bytesV] at hb2; omega
      subst hk2
      rw [List.take_length] at hR
      rw [hR]
      exact hC
end Go.Proofs.YtdpfdpmjnifanaaDoor.Weave
