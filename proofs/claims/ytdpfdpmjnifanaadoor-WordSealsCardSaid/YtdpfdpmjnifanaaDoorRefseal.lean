/- the document's letter, Seal, Open. -/
import Derived.Test.YtdpfdpmjnifanaaDoorProg
import Derived.KernelRfl
import Derived.Test.YtdpfdpmjnifanaaDoorSeal
import Derived.Test.YtdpfdpmjnifanaaDoorOpen
import Derived.Test.YtdpfdpmjnifanaaDoorIntBits
import Derived.Test.YtdpfdpmjnifanaaDoorCut
namespace Go.Proofs.YtdpfdpmjnifanaaDoor.Refseal
open Go Go.RowKit Go.Sb
set_option maxRecDepth 100000
set_option linter.unusedVariables false
set_option linter.unusedSimpArgs false
theorem mixed : Tryd.prog.follows .mixedOrders = true := by kernel_rfl
theorem ti5 : TI Tryd.prog 5 1 1 (.int .u8 0) := TI.of (by kernel_rfl)
theorem can20 : Callable Tryd.prog 20 := ⟨Tryd.f20, Tryd.func20, by kernel_rfl, by kernel_rfl⟩
theorem can54 : Callable Tryd.prog 54 := ⟨Tryd.f54, Tryd.func54, by kernel_rfl, by kernel_rfl⟩

theorem let_cut_all : ∀ n, n < 64 → ((⟨lets.toArray⟩ : ByteArray).extract n (n + 1)).data = #[letF n] := by decide +kernel
theorem let_cut {n : Nat} (h : n < 64) : (⟨lets.toArray⟩ : ByteArray).extract n (n + 1) = ⟨[letF n].toArray⟩ := ByteArray.ext (let_cut_all n h)

theorem gdrop (L : List UInt8) (i k : Nat) : (L.drop i).getD k 0 = L.getD (i + k) 0 := by simp [List.getD, List.getElem?_drop]

theorem letter_calls {Z w : World} {Lf : List HP} {n : Nat} (hn : n < 64) (hst : St Z w Lf) : Calls Tryd.prog 54 #[.int .i64 (n : Int)] w (Ret fun r w' => r = .string ⟨[letF n].toArray⟩ ∧ St Z w' Lf) := by
  refine J.enter (N := 7) (l := [.int .i64 (n : Int)]) (C := Sto Z Lf) Tryd.func54 rfl Tryd.ntmps54 (by simp) (hst) ?_
  refine J.seq ?_
  refine J.region ?_
  refine J.rd (Rd.assign rfl) rfl rfl ?_
  refine J.done ?_
  refine J.thenN ?_
  refine J.seq ?_
  refine J.region ?_
  refine J.rd (Rd.move rfl) rfl rfl ?_
  refine J.rd (Rd.move rfl) rfl rfl ?_
  refine J.rd (Rd.bin' rfl rfl rfl (fun _ => rfl)) rfl rfl ?_
  first | refine J.val (wI64 ⟨by omega, by omega⟩) ?_ | skip
  refine J.val (show _ = Value.int .i64 ((n + 1 : Nat) : Int) from congrArg (Value.int .i64) (by omega)) ?_
  refine J.rd (Rd.sliceStr (l := n) (h := n + 1) Tryd.underlying9 rfl ⟨_, rfl, rfl⟩ ⟨_, rfl, rfl⟩ (by omega) (by show n + 1 ≤ 64; omega)) rfl rfl ?_
  refine J.rd (Rd.assign rfl) rfl rfl ?_
  refine J.done ?_
  refine J.thenN ?_
  refine J.ret ?_
  refine J.leave1 (.inr rfl) rfl rfl (fun w' hC => ?_)
  exact ⟨congrArg Value.string (let_cut hn), hC⟩

theorem RSeal_calls {Z w : World} {Lf : List HP} {v : Value} {l : List UInt8} (hr : ∀ w, St Z w Lf → SlR w v (bytesV l)) (hl : l.length ≤ 1000000) (hst : St Z w Lf) : Calls Tryd.prog 20 #[v] w (Ret fun r w' => r = .string ⟨(enc3 l).toArray⟩ ∧ St Z w' Lf) := by
  refine J.enter (N := 81) (l := [v]) (C := Sto Z Lf) Tryd.func20 rfl Tryd.ntmps20 (by simp) (hst) ?_
  refine J.seq ?_
  refine J.region ?_
  refine J.rd (Rd.assign rfl) rfl rfl ?_
  refine J.done ?_
  refine J.thenN ?_
  refine J.seq ?_
  refine J.region ?_
  refine J.rd (Rd.assign rfl) rfl rfl ?_
  refine J.done ?_
  refine J.thenN ?_
  refine J.seq ?_
  refine J.seq ?_
  refine J.region ?_
  refine J.rd (Rd.assign rfl) rfl rfl ?_
  refine J.done ?_
  refine J.thenN ?_
  refine J.block ?_
  refine J.loop (σ := Nat × List UInt8) (fun q => l.length + 3 - q.1) (fun q => [(0, v), (3, .string ⟨q.2.toArray⟩), (4, .int .i64 (q.1 : Int))])
    (fun q w => (q.2 ++ enc3 (l.drop q.1) = enc3 l ∧ q.1 ≤ l.length + 2) ∧ St Z w Lf) (0, []) (.cons rfl (.cons rfl (.cons rfl .nil))) (fun w hw => ⟨⟨rfl, by simp⟩, hw⟩) ?_
  rintro ⟨i, o⟩
  refine J.andC fun hq => ?_
  obtain ⟨hq1, hq2⟩ := hq
  simp only at hq1 hq2
  simp only
  have hol : o.length ≤ 3000000 := by
    have h2 := congrArg List.length hq1
    rw [Seal.enc3_length, List.length_append] at h2
    omega
  have gd : ∀ k, k < l.length → l[k]? = some (l.getD k 0) := fun k hk => by rw [List.getD_eq_getElem?_getD, List.getElem?_eq_getElem hk]; rfl
  have gz : ∀ k, ¬ k < l.length → l.getD k 0 = 0 := fun k hk => by rw [List.getD_eq_getElem?_getD, List.getElem?_eq_none (by omega)]; rfl
  have b0 := (l.getD i 0).toNat_lt
  have b1 := (l.getD (i + 1) 0).toNat_lt
  have b2 := (l.getD (i + 2) 0).toNat_lt
  refine J.seq ?_
  refine J.seq ?_
  refine J.region ?_
  refine J.rd (Rd.move rfl) rfl rfl ?_
  refine J.rd (Rd.move rfl) rfl rfl ?_
  refine J.rd (Rd.lenR Tryd.underlying27 rfl (fun w hw => hr w (St.sub hw)) rfl) rfl rfl ?_
  refine J.rd (Rd.bin' rfl rfl rfl (fun _ => rfl)) rfl rfl ?_
  refine J.done ?_
  refine J.thenN ?_
  refine J.cond rfl (fun hb1 => ?_) (fun hb1 => ?_)
  · skip
    refine J.skip ?_
    refine J.thenN ?_
    refine J.seq ?_
    refine J.block ?_
    refine J.seq ?_
    have hlt : i < l.length := by simp [length_bytesV] at hb1; omega
    refine J.region ?_
    refine J.rd (Rd.move rfl) rfl rfl ?_
    refine J.rd (Rd.move rfl) rfl rfl ?_
    refine J.idxR ti5 Tryd.underlying27 rfl rfl (fun w hw => hr w (St.sub hw)) (bytesV_get (gd i hlt)) rfl rfl (fun ad14 had14 => ?_)
    refine J.rd (Rd.load rfl Tryd.underlying5 rfl (had14)) rfl rfl ?_
    refine J.rd (Rd.convI rfl Tryd.underlying5 Tryd.underlying3) rfl rfl ?_
    first | refine J.val (wI64 ⟨by omega, by omega⟩) ?_ | skip
    refine J.rd (Rd.bin' rfl rfl rfl (fun _ => rfl)) rfl rfl ?_
    first | refine J.val (wI64 ⟨by omega, by omega⟩) ?_ | skip
    refine J.val (show _ = Value.int .i64 (((l.getD i 0).toNat * 65536 : Nat) : Int) from congrArg (Value.int .i64) (by omega)) ?_
    refine J.rd (Rd.assign rfl) rfl rfl ?_
    refine J.done ?_
    refine J.thenN ?_
    refine J.cut (σ := Unit) (fun _ => [(0, v), (3, .string ⟨o.toArray⟩), (4, .int .i64 (i : Int)), (5, .int .i64 (((l.getD i 0).toNat * 65536 + (l.getD (i + 1) 0).toNat * 256 : Nat) : Int))]) (fun _ => Sto Z Lf) ?_ ?_
    · skip
      refine J.seq ?_
      refine J.region ?_
      refine J.rd (Rd.move rfl) rfl rfl ?_
      refine J.rd (Rd.bin' rfl rfl rfl (fun _ => rfl)) rfl rfl ?_
      first | refine J.val (wI64 ⟨by omega, by omega⟩) ?_ | skip
      refine J.rd (Rd.move rfl) rfl rfl ?_
      refine J.rd (Rd.lenR Tryd.underlying27 rfl (fun w hw => hr w (St.sub hw)) rfl) rfl rfl ?_
      refine J.rd (Rd.bin' rfl rfl rfl (fun _ => rfl)) rfl rfl ?_
      refine J.done ?_
      refine J.thenN ?_
      refine J.cond rfl (fun hb2 => ?_) (fun hb2 => ?_)
      · skip
        have hlt1 : i + 1 < l.length := by simp [length_bytesV] at hb2; omega
        refine J.region ?_
        refine J.rd (Rd.move rfl) rfl rfl ?_
        refine J.rd (Rd.move rfl) rfl rfl ?_
        refine J.rd (Rd.move rfl) rfl rfl ?_
        refine J.rd (Rd.bin' rfl rfl rfl (fun _ => rfl)) rfl rfl ?_
        first | refine J.val (wI64 ⟨by omega, by omega⟩) ?_ | skip
        refine J.val (show _ = Value.int .i64 ((i + 1 : Nat) : Int) from congrArg (Value.int .i64) (by omega)) ?_
        refine J.idxR (i := i + 1) ti5 Tryd.underlying27 rfl rfl (fun w hw => hr w (St.sub hw)) (bytesV_get (gd (i + 1) hlt1)) rfl rfl (fun ad27 had27 => ?_)
        refine J.rd (Rd.load rfl Tryd.underlying5 rfl (had27)) rfl rfl ?_
        refine J.rd (Rd.convI rfl Tryd.underlying5 Tryd.underlying3) rfl rfl ?_
        first | refine J.val (wI64 ⟨by omega, by omega⟩) ?_ | skip
        refine J.rd (Rd.bin' rfl rfl rfl (fun _ => rfl)) rfl rfl ?_
        first | refine J.val (wI64 ⟨by omega, by omega⟩) ?_ | skip
        refine J.rd (Rd.bin' rfl rfl rfl (fun _ => rfl)) rfl rfl ?_
        first | refine J.val (wI64 ⟨by omega, by omega⟩) ?_ | skip
        refine J.val (show _ = Value.int .i64 (((l.getD i 0).toNat * 65536 + (l.getD (i + 1) 0).toNat * 256 : Nat) : Int) from congrArg (Value.int .i64) (by omega)) ?_
        refine J.rd (Rd.assign rfl) rfl rfl ?_
        refine J.done ?_
        refine J.thenN ?_
        exact J.met () (.cons rfl (.cons rfl (.cons rfl (.cons rfl .nil)))) (fun w hw => hw)
      · skip
        refine J.skip ?_
        refine J.thenN ?_
        have e : l.getD (i + 1) 0 = 0 := gz (i + 1) (by simp [length_bytesV] at hb2; omega)
        refine J.met () (.cons rfl (.cons rfl (.cons rfl (.cons ?_ .nil)))) (fun w hw => hw)
        have e2 : (l.getD i 0).toNat * 65536 + (l.getD (i + 1) 0).toNat * 256 = (l.getD i 0).toNat * 65536 := by rw [e]; simp
        rw [e2]; rfl
    · intro _
      refine J.cut (σ := Unit) (fun _ => [(0, v), (3, .string ⟨o.toArray⟩), (4, .int .i64 (i : Int)), (5, .int .i64 ((quadN l i : Nat) : Int))]) (fun _ => Sto Z Lf) ?_ ?_
      · skip
        refine J.seq ?_
        refine J.region ?_
        refine J.rd (Rd.move rfl) rfl rfl ?_
        refine J.rd (Rd.bin' rfl rfl rfl (fun _ => rfl)) rfl rfl ?_
        first | refine J.val (wI64 ⟨by omega, by omega⟩) ?_ | skip
        refine J.rd (Rd.move rfl) rfl rfl ?_
        refine J.rd (Rd.lenR Tryd.underlying27 rfl (fun w hw => hr w (St.sub hw)) rfl) rfl rfl ?_
        refine J.rd (Rd.bin' rfl rfl rfl (fun _ => rfl)) rfl rfl ?_
        refine J.done ?_
        refine J.thenN ?_
        refine J.cond rfl (fun hb3 => ?_) (fun hb3 => ?_)
        · skip
          have hlt2 : i + 2 < l.length := by simp [length_bytesV] at hb3; omega
          refine J.region ?_
          refine J.rd (Rd.move rfl) rfl rfl ?_
          refine J.rd (Rd.move rfl) rfl rfl ?_
          refine J.rd (Rd.move rfl) rfl rfl ?_
          refine J.rd (Rd.bin' rfl rfl rfl (fun _ => rfl)) rfl rfl ?_
          first | refine J.val (wI64 ⟨by omega, by omega⟩) ?_ | skip
          refine J.val (show _ = Value.int .i64 ((i + 2 : Nat) : Int) from congrArg (Value.int .i64) (by omega)) ?_
          refine J.idxR (i := i + 2) ti5 Tryd.underlying27 rfl rfl (fun w hw => hr w (St.sub hw)) (bytesV_get (gd (i + 2) hlt2)) rfl rfl (fun ad41 had41 => ?_)
          refine J.rd (Rd.load rfl Tryd.underlying5 rfl (had41)) rfl rfl ?_
          refine J.rd (Rd.convI rfl Tryd.underlying5 Tryd.underlying3) rfl rfl ?_
          first | refine J.val (wI64 ⟨by omega, by omega⟩) ?_ | skip
          refine J.rd (Rd.bin' rfl rfl rfl (fun _ => rfl)) rfl rfl ?_
          first | refine J.val (wI64 ⟨by omega, by omega⟩) ?_ | skip
          refine J.val (show _ = Value.int .i64 ((quadN l i : Nat) : Int) from congrArg (Value.int .i64) (by unfold quadN; omega)) ?_
          refine J.rd (Rd.assign rfl) rfl rfl ?_
          refine J.done ?_
          refine J.thenN ?_
          exact J.met () (.cons rfl (.cons rfl (.cons rfl (.cons rfl .nil)))) (fun w hw => hw)
        · skip
          refine J.skip ?_
          refine J.thenN ?_
          have e : l.getD (i + 2) 0 = 0 := gz (i + 2) (by simp [length_bytesV] at hb3; omega)
          refine J.met () (.cons rfl (.cons rfl (.cons rfl (.cons ?_ .nil)))) (fun w hw => hw)
          have e2 : quadN l i = (l.getD i 0).toNat * 65536 + (l.getD (i + 1) 0).toNat * 256 := by unfold quadN; rw [e]; simp
          rw [e2]; rfl
      · intro _
        refine J.seq ?_
        have hnq : quadN l i < 16777216 := by unfold quadN; omega
        refine J.region ?_
        refine J.rd (Rd.move rfl) rfl rfl ?_
        refine J.rd (Rd.move rfl) rfl rfl ?_
        refine J.rd (Rd.quo rfl rfl (by first | decide | omega)) rfl rfl ?_
        first | refine J.val (wQ ⟨by omega, by omega, by omega⟩) ?_ | skip
        refine J.call can54 rfl (fun w hC => letter_calls (n := quadN l i / 262144) (by omega) hC) rfl rfl (fun v48 => ?_)
        refine J.andC fun hv48 => ?_
        subst hv48
        refine J.rd (Rd.cat rfl rfl (by simp only [bsize, List.length_cons, List.length_nil, List.length_append]; omega)) rfl rfl ?_
        refine J.val (show _ = Value.string ⟨(o ++ [letF (quadN l i / 262144)]).toArray⟩ from congrArg Value.string (bcat _ _)) ?_
        refine J.rd (Rd.move rfl) rfl rfl ?_
        refine J.rd (Rd.quo rfl rfl (by first | decide | omega)) rfl rfl ?_
        first | refine J.val (wQ ⟨by omega, by omega, by omega⟩) ?_ | skip
        refine J.rd (Rd.rem rfl rfl (by first | decide | omega)) rfl rfl ?_
        first | refine J.val (wR (by omega) _) ?_ | skip
        refine J.call can54 rfl (fun w hC => letter_calls (n := quadN l i / 4096 % 64) (by omega) hC) rfl rfl (fun v53 => ?_)
        refine J.andC fun hv53 => ?_
        subst hv53
        refine J.rd (Rd.cat rfl rfl (by simp only [bsize, List.length_cons, List.length_nil, List.length_append]; omega)) rfl rfl ?_
        refine J.val (show _ = Value.string ⟨(o ++ [letF (quadN l i / 262144)] ++ [letF (quadN l i / 4096 % 64)]).toArray⟩ from congrArg Value.string (bcat _ _)) ?_
        refine J.rd (Rd.assign rfl) rfl rfl ?_
        refine J.done ?_
        refine J.thenN ?_
        refine J.cut (σ := List UInt8) (fun q => [(0, v), (3, .string ⟨q.toArray⟩), (4, .int .i64 (i : Int)), (5, .int .i64 ((quadN l i : Nat) : Int))]) (fun q w => q = o ++ [letF (quadN l i / 262144), letF (quadN l i / 4096 % 64), if i + 1 < l.length then letF (quadN l i / 64 % 64) else 61] ∧ St Z w Lf) ?_ ?_
        · skip
          refine J.seq ?_
          refine J.region ?_
          refine J.rd (Rd.move rfl) rfl rfl ?_
          refine J.rd (Rd.bin' rfl rfl rfl (fun _ => rfl)) rfl rfl ?_
          first | refine J.val (wI64 ⟨by omega, by omega⟩) ?_ | skip
          refine J.rd (Rd.move rfl) rfl rfl ?_
          refine J.rd (Rd.lenR Tryd.underlying27 rfl (fun w hw => hr w (St.sub hw)) rfl) rfl rfl ?_
          refine J.rd (Rd.bin' rfl rfl rfl (fun _ => rfl)) rfl rfl ?_
          refine J.done ?_
          refine J.thenN ?_
          refine J.cond rfl (fun hb4 => ?_) (fun hb4 => ?_)
          · skip
            refine J.region ?_
            refine J.rd (Rd.move rfl) rfl rfl ?_
            refine J.rd (Rd.move rfl) rfl rfl ?_
            refine J.rd (Rd.quo rfl rfl (by first | decide | omega)) rfl rfl ?_
            first | refine J.val (wQ ⟨by omega, by omega, by omega⟩) ?_ | skip
            refine J.rd (Rd.rem rfl rfl (by first | decide | omega)) rfl rfl ?_
            first | refine J.val (wR (by omega) _) ?_ | skip
            refine J.call can54 rfl (fun w hC => letter_calls (n := quadN l i / 64 % 64) (by omega) hC) rfl rfl (fun v64 => ?_)
            refine J.andC fun hv64 => ?_
            subst hv64
            refine J.rd (Rd.cat rfl rfl (by simp only [bsize, List.length_cons, List.length_nil, List.length_append]; omega)) rfl rfl ?_
            refine J.val (show _ = Value.string ⟨(o ++ [letF (quadN l i / 262144)] ++ [letF (quadN l i / 4096 % 64)] ++ [letF (quadN l i / 64 % 64)]).toArray⟩ from congrArg Value.string (bcat _ _)) ?_
            refine J.rd (Rd.assign rfl) rfl rfl ?_
            refine J.done ?_
            refine J.thenN ?_
            refine J.met _ (.cons rfl (.cons rfl (.cons rfl (.cons rfl .nil)))) (fun w hw => ⟨?_, hw⟩)
            rw [if_pos (by simp [length_bytesV] at hb4; omega)]; simp
          · skip
            refine J.region ?_
            refine J.rd (Rd.move rfl) rfl rfl ?_
            refine J.rd (Rd.cat rfl rfl (by simp only [bsize, List.length_cons, List.length_nil, List.length_append]; omega)) rfl rfl ?_
            refine J.val (show _ = Value.string ⟨(o ++ [letF (quadN l i / 262144)] ++ [letF (quadN l i / 4096 % 64)] ++ [61]).toArray⟩ from congrArg Value.string (bcat _ [61])) ?_
            refine J.rd (Rd.assign rfl) rfl rfl ?_
            refine J.done ?_
            refine J.thenN ?_
            refine J.met _ (.cons rfl (.cons rfl (.cons rfl (.cons rfl .nil)))) (fun w hw => ⟨?_, hw⟩)
            rw [if_neg (by simp [length_bytesV] at hb4; omega)]; simp
        · intro q
          refine J.andC fun hqq => ?_
          have hql : q.length = o.length + 3 := by rw [hqq]; simp
          have hnq : quadN l i < 16777216 := by unfold quadN; omega
          refine J.seq ?_
          refine J.region ?_
          refine J.rd (Rd.move rfl) rfl rfl ?_
          refine J.rd (Rd.bin' rfl rfl rfl (fun _ => rfl)) rfl rfl ?_
          first | refine J.val (wI64 ⟨by omega, by omega⟩) ?_ | skip
          refine J.rd (Rd.move rfl) rfl rfl ?_
          refine J.rd (Rd.lenR Tryd.underlying27 rfl (fun w hw => hr w (St.sub hw)) rfl) rfl rfl ?_
          refine J.rd (Rd.bin' rfl rfl rfl (fun _ => rfl)) rfl rfl ?_
          refine J.done ?_
          refine J.thenN ?_
          refine J.cond rfl (fun hb5 => ?_) (fun hb5 => ?_)
          · skip
            refine J.region ?_
            refine J.rd (Rd.move rfl) rfl rfl ?_
            refine J.rd (Rd.move rfl) rfl rfl ?_
            refine J.rd (Rd.rem rfl rfl (by first | decide | omega)) rfl rfl ?_
            first | refine J.val (wR (by omega) _) ?_ | skip
            refine J.call can54 rfl (fun w hC => letter_calls (n := quadN l i % 64) (by omega) hC) rfl rfl (fun v76 => ?_)
            refine J.andC fun hv76 => ?_
            subst hv76
            refine J.rd (Rd.cat rfl rfl (by simp only [bsize, List.length_cons, List.length_nil, List.length_append]; omega)) rfl rfl ?_
            refine J.val (show _ = Value.string ⟨(q ++ [letF (quadN l i % 64)]).toArray⟩ from congrArg Value.string (bcat _ _)) ?_
            refine J.rd (Rd.assign rfl) rfl rfl ?_
            refine J.done ?_
            refine J.blockN ?_
            refine J.thenN ?_
            refine J.region ?_
            refine J.rd (Rd.move rfl) rfl rfl ?_
            refine J.rd (Rd.bin' rfl rfl rfl (fun _ => rfl)) rfl rfl ?_
            first | refine J.val (wI64 ⟨by omega, by omega⟩) ?_ | skip
            refine J.val (show _ = Value.int .i64 ((i + 3 : Nat) : Int) from congrArg (Value.int .i64) (by omega)) ?_
            refine J.rd (Rd.assign rfl) rfl rfl ?_
            refine J.done ?_
            refine J.thenN ?_
            refine J.again (i, o) (i + 3, q ++ [letF (quadN l i % 64)]) ?_ (.cons rfl (.cons rfl (.cons rfl .nil))) (fun w hw => ⟨⟨?_, by simp only; omega⟩, hw⟩)
            · show l.length + 3 - (i + 3) < l.length + 3 - i; omega
            · simp only
              rw [← hq1, enc3_quad hlt, hqq]
              have h2 : i + 2 < l.length := by simp [length_bytesV] at hb5; omega
              simp only [quad, if_pos h2]
              simp
          · skip
            refine J.region ?_
            refine J.rd (Rd.move rfl) rfl rfl ?_
            refine J.rd (Rd.cat rfl rfl (by simp only [bsize, List.length_cons, List.length_nil, List.length_append]; omega)) rfl rfl ?_
            refine J.val (show _ = Value.string ⟨(q ++ [61]).toArray⟩ from congrArg Value.string (bcat _ [61])) ?_
            refine J.rd (Rd.assign rfl) rfl rfl ?_
            refine J.done ?_
            refine J.blockN ?_
            refine J.thenN ?_
            refine J.region ?_
            refine J.rd (Rd.move rfl) rfl rfl ?_
            refine J.rd (Rd.bin' rfl rfl rfl (fun _ => rfl)) rfl rfl ?_
            first | refine J.val (wI64 ⟨by omega, by omega⟩) ?_ | skip
            refine J.val (show _ = Value.int .i64 ((i + 3 : Nat) : Int) from congrArg (Value.int .i64) (by omega)) ?_
            refine J.rd (Rd.assign rfl) rfl rfl ?_
            refine J.done ?_
            refine J.thenN ?_
            refine J.again (i, o) (i + 3, q ++ [61]) ?_ (.cons rfl (.cons rfl (.cons rfl .nil))) (fun w hw => ⟨⟨?_, by simp only; omega⟩, hw⟩)
            · show l.length + 3 - (i + 3) < l.length + 3 - i; omega
            · simp only
              rw [← hq1, enc3_quad hlt, hqq]
              have h2 : ¬ i + 2 < l.length := by simp [length_bytesV] at hb5; omega
              simp only [quad, if_neg h2]
              simp
  · skip
    refine J.exit ?_
    refine J.thenE ?_
    refine J.thenE ?_
    refine J.blockE ?_
    refine J.thenN ?_
    refine J.seq ?_
    refine J.region ?_
    refine J.rd (Rd.move rfl) rfl rfl ?_
    refine J.rd (Rd.assign rfl) rfl rfl ?_
    refine J.done ?_
    refine J.thenN ?_
    refine J.ret ?_
    refine J.leave1 (.inr rfl) rfl rfl (fun w' hC => ?_)
    have h2 : l.drop i = [] := List.drop_eq_nil_of_le (by simp [length_bytesV] at hb1; omega)
    rw [h2] at hq1
    simp [enc3] at hq1
    exact ⟨by rw [hq1], hC⟩

theorem ext1 {s : ByteArray} {j : Nat} (h : j < s.data.toList.length) : s.extract j (j + 1) = ⟨[s.data.toList.getD j 0].toArray⟩ := by
  apply ByteArray.ext
  apply Array.ext'
  rw [ByteArray.data_extract, Array.toList_extract, List.extract_eq_take_drop]
  rw [List.drop_eq_getElem_cons h, List.getD_eq_getElem?_getD, List.getElem?_eq_getElem h]
  simp
theorem letF_eq {c : UInt8} {x : Nat} (hx : x < 64) : letF x = c ↔ idxL c = x := by
  constructor
  · intro h; rw [← h]; exact idxL_letF x hx
  · intro h; rw [← h]; exact letF_idxL (by omega)

theorem ROpen_calls {Z w : World} {Lf : List HP} (s : ByteArray) (hs : s.size ≤ 1000000) (hst : St Z w Lf) : Calls Tryd.prog 19 #[.string s] w (Ret fun r w' => ∃ v, r = .tuple #[v, .bool (decide (enc3 (refDec s.data.toList) = s.data.toList))] ∧ St Z w' (own 5 1 v (refDec s.data.toList).length (bytesV (refDec s.data.toList)) :: Lf)) := by
  refine J.enter (N := 85) (l := [.string s]) (C := Sto Z Lf) Tryd.func19 rfl Tryd.ntmps19 (by simp) (hst) ?_
  have hsl : s.data.toList.length = s.size := by simp
  generalize hL : s.data.toList = L at hsl
  refine J.seq ?_
  refine J.region ?_
  refine J.rd (Rd.assign rfl) rfl rfl ?_
  refine J.rd (Rd.assign rfl) rfl rfl ?_
  refine J.done ?_
  refine J.thenN ?_
  refine J.seq ?_
  refine J.region ?_
  refine J.rd (Rd.assign rfl) rfl rfl ?_
  refine J.done ?_
  refine J.thenN ?_
  refine J.seq ?_
  refine J.seq ?_
  refine J.region ?_
  refine J.rd (Rd.assign rfl) rfl rfl ?_
  refine J.done ?_
  refine J.thenN ?_
  refine J.block ?_
  refine J.loop (σ := Nat × List UInt8 × Value) (fun q => L.length + 4 - q.1) (fun q => [(0, .string s), (4, q.2.2), (5, .int .i64 (q.1 : Int))])
    (fun q w => (q.2.1 ++ refDec (L.drop q.1) = refDec L ∧ q.1 ≤ L.length + 3) ∧ St Z w (own 5 1 q.2.2 q.2.1.length (bytesV q.2.1) :: Lf)) (0, [], .slice none 0 0) (.cons rfl (.cons rfl (.cons rfl .nil))) (fun w hw => ⟨⟨rfl, by simp⟩, St.ownNil 5 1 hw⟩) ?_
  rintro ⟨i, o, v⟩
  refine J.andC fun hq => ?_
  obtain ⟨hq1, hq2⟩ := hq
  simp only at hq1 hq2
  simp only
  have hol : o.length ≤ 1000000 := by
    have h2 := congrArg List.length hq1
    have h3 := refDec_le L.length L (Nat.le_refl _)
    rw [List.length_append] at h2
    omega
  refine J.seq ?_
  refine J.seq ?_
  refine J.region ?_
  refine J.rd (Rd.move rfl) rfl rfl ?_
  refine J.rd (Rd.bin' rfl rfl rfl (fun _ => rfl)) rfl rfl ?_
  first | refine J.val (wI64 ⟨by omega, by omega⟩) ?_ | skip
  refine J.rd (Rd.move rfl) rfl rfl ?_
  refine J.rd (Rd.lenStr rfl rfl Tryd.underlying9) rfl rfl ?_
  refine J.rd (Rd.bin' rfl rfl rfl (fun _ => rfl)) rfl rfl ?_
  refine J.done ?_
  refine J.thenN ?_
  refine J.cond rfl (fun hb1 => ?_) (fun hb1 => ?_)
  · skip
    refine J.skip ?_
    refine J.thenN ?_
    refine J.seq ?_
    refine J.block ?_
    refine J.seq ?_
    refine J.region ?_
    refine J.rd (Rd.assign rfl) rfl rfl ?_
    refine J.done ?_
    refine J.thenN ?_
    refine J.seq ?_
    refine J.region ?_
    refine J.rd (Rd.assign rfl) rfl rfl ?_
    refine J.done ?_
    refine J.thenN ?_
    refine J.seq ?_
    refine J.seq ?_
    refine J.region ?_
    refine J.rd (Rd.assign rfl) rfl rfl ?_
    refine J.done ?_
    refine J.thenN ?_
    refine J.block ?_
    refine J.loop (σ := Nat) (fun k => 4 - k) (fun k => [(0, .string s), (4, v), (5, .int .i64 (i : Int)), (6, .int .i64 ((refN (L.drop i) k : Nat) : Int)), (7, .int .i64 ((refLeft (L.drop i) k : Nat) : Int)), (8, .int .i64 (k : Int))])
      (fun k w => k ≤ 4 ∧ St Z w (own 5 1 v o.length (bytesV o) :: Lf)) 0 (.cons rfl (.cons rfl (.cons rfl (.cons rfl (.cons rfl (.cons rfl .nil)))))) (fun w hw => ⟨by omega, hw⟩) ?_
    intro k
    refine J.andC fun hk => ?_
    have hlen : i + 3 < L.length := by simp at hb1; omega
    have hrn := refN_lt (L.drop i) k
    have hrl := (refLeft_4 (L.drop i)).2 k
    refine J.seq ?_
    refine J.seq ?_
    refine J.region ?_
    refine J.rd (Rd.move rfl) rfl rfl ?_
    refine J.rd (Rd.bin' rfl rfl rfl (fun _ => rfl)) rfl rfl ?_
    refine J.done ?_
    refine J.thenN ?_
    refine J.cond rfl (fun hb2 => ?_) (fun hb2 => ?_)
    · skip
      refine J.skip ?_
      refine J.thenN ?_
      refine J.seq ?_
      refine J.block ?_
      refine J.seq ?_
      have hk4 : k < 4 := by simp at hb2; omega
      have hcl := (gdrop L i k)
      have hjl : i + k < L.length := by omega
      generalize hc : L.getD (i + k) 0 = c at hcl
      have hex : s.extract (i + k) (i + k + 1) = ⟨[c].toArray⟩ := by rw [ext1 (by rw [hL]; exact hjl), hL, hc]
      have hrn4 : refN (L.drop i) k < 262144 := Nat.lt_of_lt_of_le hrn (show 64 ^ k ≤ 64 ^ 3 from Nat.pow_le_pow_right (by decide) (by omega))
      refine J.region ?_
      refine J.rd (Rd.assign rfl) rfl rfl ?_
      refine J.done ?_
      refine J.thenN ?_
      refine J.seq ?_
      refine J.seq ?_
      refine J.region ?_
      refine J.rd (Rd.assign rfl) rfl rfl ?_
      refine J.done ?_
      refine J.thenN ?_
      refine J.block ?_
      refine J.loop (σ := Nat) (fun x => 64 - x) (fun x => [(0, .string s), (4, v), (5, .int .i64 (i : Int)), (6, .int .i64 ((refN (L.drop i) k : Nat) : Int)), (7, .int .i64 ((refLeft (L.drop i) k : Nat) : Int)), (8, .int .i64 (k : Int)), (9, .int .i64 (if idxL c < x then (idxL c : Int) else -1)), (10, .int .i64 (x : Int))])
        (fun x w => x ≤ 64 ∧ St Z w (own 5 1 v o.length (bytesV o) :: Lf)) 0 (.cons rfl (.cons rfl (.cons rfl (.cons rfl (.cons rfl (.cons rfl (.cons rfl (.cons rfl .nil)))))))) (fun w hw => ⟨by omega, hw⟩) ?_
      intro x
      refine J.andC fun hx => ?_
      refine J.seq ?_
      refine J.seq ?_
      refine J.region ?_
      refine J.rd (Rd.move rfl) rfl rfl ?_
      refine J.rd (Rd.bin' rfl rfl rfl (fun _ => rfl)) rfl rfl ?_
      refine J.done ?_
      refine J.thenN ?_
      refine J.cond rfl (fun hb3 => ?_) (fun hb3 => ?_)
      · skip
        refine J.skip ?_
        refine J.thenN ?_
        refine J.seq ?_
        refine J.block ?_
        refine J.seq ?_
        refine J.mix [(true, 0), (true, 2), (true, 3), (true, 4), (true, 5), (true, 6), (true, 7), (true, 8), (true, 9), (true, 10), (false, 1), (true, 11)] mixed (by kernel_rfl) (fun w n h => St.drawn h n) (fun _ hw => hw) ?_
        refine JM.rd rfl (Rd.move rfl) rfl rfl ?_
        refine JM.rd rfl (Rd.move rfl) rfl rfl ?_
        refine JM.rd rfl (Rd.move rfl) rfl rfl ?_
        refine JM.rd rfl (Rd.move rfl) rfl rfl ?_
        refine JM.rd rfl (Rd.bin' rfl rfl rfl (fun _ => rfl)) rfl rfl ?_
        first | refine JM.val (wI64 ⟨by omega, by omega⟩) ?_ | skip
        refine JM.val (show _ = Value.int .i64 ((i + k : Nat) : Int) from congrArg (Value.int .i64) (by omega)) ?_
        refine JM.rd rfl (Rd.move rfl) rfl rfl ?_
        refine JM.rd rfl (Rd.move rfl) rfl rfl ?_
        refine JM.rd rfl (Rd.bin' rfl rfl rfl (fun _ => rfl)) rfl rfl ?_
        first | refine JM.val (wI64 ⟨by omega, by omega⟩) ?_ | skip
        refine JM.rd rfl (Rd.bin' rfl rfl rfl (fun _ => rfl)) rfl rfl ?_
        first | refine JM.val (wI64 ⟨by omega, by omega⟩) ?_ | skip
        refine JM.val (show _ = Value.int .i64 ((i + k + 1 : Nat) : Int) from congrArg (Value.int .i64) (by omega)) ?_
        refine JM.rd rfl (Rd.sliceStr (l := i + k) (h := i + k + 1) Tryd.underlying9 rfl ⟨_, rfl, rfl⟩ ⟨_, rfl, rfl⟩ (by omega) (by omega)) rfl rfl ?_
        refine JM.eff rfl ?_
        refine J.call can54 rfl (fun w hC => letter_calls (n := x) (by simp at hb3; omega) hC) rfl rfl (fun v28 => ?_)
        refine J.andC fun hv28 => ?_
        subst hv28
        refine JM.next (fun _ hw => hw) (fun _ hw => St.sub hw) ?_
        refine JM.rd rfl (Rd.bin' rfl rfl rfl (fun _ => rfl)) rfl rfl ?_
        refine JM.done ?_
        refine J.thenN ?_
        refine J.cond rfl (fun hb4 => ?_) (fun hb4 => ?_)
        · skip
          refine J.region ?_
          refine J.rd (Rd.move rfl) rfl rfl ?_
          refine J.rd (Rd.assign rfl) rfl rfl ?_
          refine J.done ?_
          refine J.blockN ?_
          refine J.thenN ?_
          refine J.region ?_
          refine J.rd (Rd.move rfl) rfl rfl ?_
          refine J.rd (Rd.bin' rfl rfl rfl (fun _ => rfl)) rfl rfl ?_
          first | refine J.val (wI64 ⟨by omega, by omega⟩) ?_ | skip
          refine J.rd (Rd.assign rfl) rfl rfl ?_
          refine J.done ?_
          refine J.thenN ?_
          have hx64 : x < 64 := by simp at hb3; omega
          have e : letF x = c := by rw [hex, str_eq2] at hb4; simpa using hb4
          have e2 := (letF_eq hx64).1 e
          refine J.again x (x + 1) ?_ (.cons rfl (.cons rfl (.cons rfl (.cons rfl (.cons rfl (.cons rfl (.cons ?_ (.cons rfl .nil)))))))) (fun w hw => ⟨by omega, hw⟩)
          · show 64 - (x + 1) < 64 - x; omega
          · rw [e2, if_pos (Nat.lt_succ_self x)]; rfl
        · skip
          refine J.skip ?_
          refine J.blockN ?_
          refine J.thenN ?_
          refine J.region ?_
          refine J.rd (Rd.move rfl) rfl rfl ?_
          refine J.rd (Rd.bin' rfl rfl rfl (fun _ => rfl)) rfl rfl ?_
          first | refine J.val (wI64 ⟨by omega, by omega⟩) ?_ | skip
          refine J.rd (Rd.assign rfl) rfl rfl ?_
          refine J.done ?_
          refine J.thenN ?_
          have hx64 : x < 64 := by simp at hb3; omega
          have e : ¬ letF x = c := by rw [hex, str_eq2] at hb4; simpa using hb4
          have e2 : ¬ idxL c = x := fun h => e ((letF_eq hx64).2 h)
          refine J.again x (x + 1) ?_ (.cons rfl (.cons rfl (.cons rfl (.cons rfl (.cons rfl (.cons rfl (.cons ?_ (.cons rfl .nil)))))))) (fun w hw => ⟨by omega, hw⟩)
          · show 64 - (x + 1) < 64 - x; omega
          · have e3 : (idxL c < x + 1) = (idxL c < x) := by apply propext; omega
            simp only [e3]; rfl
      · skip
        refine J.exit ?_
        refine J.thenE ?_
        refine J.thenE ?_
        refine J.blockE ?_
        refine J.thenN ?_
        refine J.seq ?_
        refine J.seq ?_
        refine J.region ?_
        refine J.rd (Rd.move rfl) rfl rfl ?_
        refine J.rd (Rd.bin' rfl rfl rfl (fun _ => rfl)) rfl rfl ?_
        refine J.done ?_
        refine J.thenN ?_
        refine J.cond rfl (fun hb5 => ?_) (fun hb5 => ?_)
        · skip
          have hx64 : x = 64 := by simp at hb3; omega
          have hc64 : idxL c = 64 := by
            have h1 := idxL_le c
            by_cases h : idxL c = 64
            · exact h
            · rw [if_pos (by omega)] at hb5; simp at hb5; omega
          refine J.seq ?_
          refine J.region ?_
          refine J.rd (Rd.assign rfl) rfl rfl ?_
          refine J.done ?_
          refine J.thenN ?_
          refine J.seq ?_
          have hget : s.data[i + k]? = some c := by
            rw [← Array.getElem?_toList, hL, List.getElem?_eq_getElem hjl, ← hc, List.getD_eq_getElem?_getD, List.getElem?_eq_getElem hjl]; rfl
          refine J.region ?_
          refine J.rd (Rd.move rfl) rfl rfl ?_
          refine J.rd (Rd.move rfl) rfl rfl ?_
          refine J.rd (Rd.move rfl) rfl rfl ?_
          refine J.rd (Rd.bin' rfl rfl rfl (fun _ => rfl)) rfl rfl ?_
          first | refine J.val (wI64 ⟨by omega, by omega⟩) ?_ | skip
          refine J.val (show _ = Value.int .i64 ((i + k : Nat) : Int) from congrArg (Value.int .i64) (by omega)) ?_
          refine J.rd (Rd.indexStr (i := i + k) rfl rfl Tryd.underlying9 (hget)) rfl rfl ?_
          refine J.rd (Rd.bin' rfl rfl rfl (fun _ => rfl)) rfl rfl ?_
          refine J.rd (Rd.move rfl) rfl rfl ?_
          refine J.bcase (fun hb6 => ?_) (fun hb6 => ?_)
          · skip
            refine J.rd (Rd.move rfl) rfl rfl ?_
            refine J.rd (Rd.bin' rfl rfl rfl (fun _ => rfl)) rfl rfl ?_
            refine J.rd (Rd.pickT rfl rfl) rfl rfl ?_
            refine J.rd (Rd.move rfl) rfl rfl ?_
            refine J.bcase (fun hb7 => ?_) (fun hb7 => ?_)
            · skip
              refine J.rd (Rd.move rfl) rfl rfl ?_
              refine J.rd (Rd.bin' rfl rfl rfl (fun _ => rfl)) rfl rfl ?_
              refine J.rd (Rd.pickT rfl rfl) rfl rfl ?_
              refine J.done ?_
              refine J.thenN ?_
              refine J.cond rfl (fun hb8 => ?_) (fun hb8 => ?_)
              · skip
                refine J.region ?_
                refine J.rd (Rd.move rfl) rfl rfl ?_
                refine J.rd (Rd.move rfl) rfl rfl ?_
                refine J.rd (Rd.bin' rfl rfl rfl (fun _ => rfl)) rfl rfl ?_
                first | refine J.val (wI64 ⟨by omega, by omega⟩) ?_ | skip
                refine J.rd (Rd.minI rfl rfl) rfl rfl ?_
                refine J.val (show _ = Value.int .i64 ((min (refLeft (L.drop i) k) (k - 1) : Nat) : Int) from congrArg (Value.int .i64) (by simp at hb7; split <;> omega)) ?_
                refine J.rd (Rd.assign rfl) rfl rfl ?_
                refine J.done ?_
                refine J.thenN ?_
                refine J.region ?_
                refine J.rd (Rd.move rfl) rfl rfl ?_
                refine J.rd (Rd.bin' rfl rfl rfl (fun _ => rfl)) rfl rfl ?_
                first | refine J.val (wI64 ⟨by omega, by omega⟩) ?_ | skip
                refine J.rd (Rd.move rfl) rfl rfl ?_
                refine J.rd (Rd.bin' rfl rfl rfl (fun _ => rfl)) rfl rfl ?_
                first | refine J.val (wI64 ⟨by omega, by omega⟩) ?_ | skip
                refine J.val (show _ = Value.int .i64 ((refN (L.drop i) (k + 1) : Nat) : Int) from congrArg (Value.int .i64) (by rw [refN, hcl, idx0]; first | (rw [if_pos hc64]; omega) | (rw [if_neg hc64]; omega))) ?_
                refine J.rd (Rd.assign rfl) rfl rfl ?_
                refine J.done ?_
                refine J.blockN ?_
                refine J.thenN ?_
                refine J.region ?_
                refine J.rd (Rd.move rfl) rfl rfl ?_
                refine J.rd (Rd.bin' rfl rfl rfl (fun _ => rfl)) rfl rfl ?_
                first | refine J.val (wI64 ⟨by omega, by omega⟩) ?_ | skip
                
                refine J.rd (Rd.assign rfl) rfl rfl ?_
                refine J.done ?_
                refine J.thenN ?_
                refine J.again k (k + 1) ?_ (.cons rfl (.cons rfl (.cons rfl (.cons rfl (.cons ?_ (.cons rfl .nil)))))) (fun w hw => ⟨by omega, hw⟩)
                · show 4 - (k + 1) < 4 - k; omega
                · skip
                  have e7 : refLeft (L.drop i) (k + 1) = min (refLeft (L.drop i) k) (k - 1) := by rw [refLeft, hcl, if_pos ⟨hc64, (u8_eq (d := 61)).1 (by simpa using hb6), by simp at hb7; omega, by simp at hb8; omega⟩]
                  rw [e7]; rfl
              · skip
                refine J.skip ?_
                refine J.thenN ?_
                refine J.region ?_
                refine J.rd (Rd.move rfl) rfl rfl ?_
                refine J.rd (Rd.bin' rfl rfl rfl (fun _ => rfl)) rfl rfl ?_
                first | refine J.val (wI64 ⟨by omega, by omega⟩) ?_ | skip
                refine J.rd (Rd.move rfl) rfl rfl ?_
                refine J.rd (Rd.bin' rfl rfl rfl (fun _ => rfl)) rfl rfl ?_
                first | refine J.val (wI64 ⟨by omega, by omega⟩) ?_ | skip
                refine J.val (show _ = Value.int .i64 ((refN (L.drop i) (k + 1) : Nat) : Int) from congrArg (Value.int .i64) (by rw [refN, hcl, idx0]; first | (rw [if_pos hc64]; omega) | (rw [if_neg hc64]; omega))) ?_
                refine J.rd (Rd.assign rfl) rfl rfl ?_
                refine J.done ?_
                refine J.blockN ?_
                refine J.thenN ?_
                refine J.region ?_
                refine J.rd (Rd.move rfl) rfl rfl ?_
                refine J.rd (Rd.bin' rfl rfl rfl (fun _ => rfl)) rfl rfl ?_
                first | refine J.val (wI64 ⟨by omega, by omega⟩) ?_ | skip
                
                refine J.rd (Rd.assign rfl) rfl rfl ?_
                refine J.done ?_
                refine J.thenN ?_
                refine J.again k (k + 1) ?_ (.cons rfl (.cons rfl (.cons rfl (.cons rfl (.cons ?_ (.cons rfl .nil)))))) (fun w hw => ⟨by omega, hw⟩)
                · show 4 - (k + 1) < 4 - k; omega
                · skip
                  have e7 : refLeft (L.drop i) (k + 1) = refLeft (L.drop i) k := by rw [refLeft, hcl, if_neg (by simp at hb8; omega)]
                  rw [e7]; rfl
            · skip
              refine J.pass rfl rfl ?_
              refine J.pass rfl rfl ?_
              refine J.rd (Rd.pickF rfl rfl) rfl rfl ?_
              refine J.done ?_
              refine J.thenN ?_
              refine J.condF rfl ?_
              refine J.skip ?_
              refine J.thenN ?_
              refine J.region ?_
              refine J.rd (Rd.move rfl) rfl rfl ?_
              refine J.rd (Rd.bin' rfl rfl rfl (fun _ => rfl)) rfl rfl ?_
              first | refine J.val (wI64 ⟨by omega, by omega⟩) ?_ | skip
              refine J.rd (Rd.move rfl) rfl rfl ?_
              refine J.rd (Rd.bin' rfl rfl rfl (fun _ => rfl)) rfl rfl ?_
              first | refine J.val (wI64 ⟨by omega, by omega⟩) ?_ | skip
              refine J.val (show _ = Value.int .i64 ((refN (L.drop i) (k + 1) : Nat) : Int) from congrArg (Value.int .i64) (by rw [refN, hcl, idx0]; first | (rw [if_pos hc64]; omega) | (rw [if_neg hc64]; omega))) ?_
              refine J.rd (Rd.assign rfl) rfl rfl ?_
              refine J.done ?_
              refine J.blockN ?_
              refine J.thenN ?_
              refine J.region ?_
              refine J.rd (Rd.move rfl) rfl rfl ?_
              refine J.rd (Rd.bin' rfl rfl rfl (fun _ => rfl)) rfl rfl ?_
              first | refine J.val (wI64 ⟨by omega, by omega⟩) ?_ | skip
              
              refine J.rd (Rd.assign rfl) rfl rfl ?_
              refine J.done ?_
              refine J.thenN ?_
              refine J.again k (k + 1) ?_ (.cons rfl (.cons rfl (.cons rfl (.cons rfl (.cons ?_ (.cons rfl .nil)))))) (fun w hw => ⟨by omega, hw⟩)
              · show 4 - (k + 1) < 4 - k; omega
              · skip
                have e7 : refLeft (L.drop i) (k + 1) = refLeft (L.drop i) k := by rw [refLeft, hcl, if_neg (by simp at hb7; omega)]
                rw [e7]; rfl
          · skip
            refine J.pass rfl rfl ?_
            refine J.pass rfl rfl ?_
            refine J.rd (Rd.pickF rfl rfl) rfl rfl ?_
            refine J.rd (Rd.move rfl) rfl rfl ?_
            refine J.pass rfl rfl ?_
            refine J.pass rfl rfl ?_
            refine J.rd (Rd.pickF rfl rfl) rfl rfl ?_
            refine J.done ?_
            refine J.thenN ?_
            refine J.condF rfl ?_
            refine J.skip ?_
            refine J.thenN ?_
            refine J.region ?_
            refine J.rd (Rd.move rfl) rfl rfl ?_
            refine J.rd (Rd.bin' rfl rfl rfl (fun _ => rfl)) rfl rfl ?_
            first | refine J.val (wI64 ⟨by omega, by omega⟩) ?_ | skip
            refine J.rd (Rd.move rfl) rfl rfl ?_
            refine J.rd (Rd.bin' rfl rfl rfl (fun _ => rfl)) rfl rfl ?_
            first | refine J.val (wI64 ⟨by omega, by omega⟩) ?_ | skip
            refine J.val (show _ = Value.int .i64 ((refN (L.drop i) (k + 1) : Nat) : Int) from congrArg (Value.int .i64) (by rw [refN, hcl, idx0]; first | (rw [if_pos hc64]; omega) | (rw [if_neg hc64]; omega))) ?_
            refine J.rd (Rd.assign rfl) rfl rfl ?_
            refine J.done ?_
            refine J.blockN ?_
            refine J.thenN ?_
            refine J.region ?_
            refine J.rd (Rd.move rfl) rfl rfl ?_
            refine J.rd (Rd.bin' rfl rfl rfl (fun _ => rfl)) rfl rfl ?_
            first | refine J.val (wI64 ⟨by omega, by omega⟩) ?_ | skip
            
            refine J.rd (Rd.assign rfl) rfl rfl ?_
            refine J.done ?_
            refine J.thenN ?_
            refine J.again k (k + 1) ?_ (.cons rfl (.cons rfl (.cons rfl (.cons rfl (.cons ?_ (.cons rfl .nil)))))) (fun w hw => ⟨by omega, hw⟩)
            · show 4 - (k + 1) < 4 - k; omega
            · skip
              have e7 : refLeft (L.drop i) (k + 1) = refLeft (L.drop i) k := by rw [refLeft, hcl, if_neg (by rintro ⟨_, h, _⟩; rw [h] at hb6; simp at hb6)]
              rw [e7]; rfl
        · skip
          have hx64 : x = 64 := by simp at hb3; omega
          have hc64 : ¬ idxL c = 64 := by
            intro h
            rw [if_neg (by omega)] at hb5; simp at hb5
          have hci := idxL_le c
          simp only [if_pos (show idxL c < x by omega)]
          refine J.skip ?_
          refine J.thenN ?_
          refine J.region ?_
          refine J.rd (Rd.move rfl) rfl rfl ?_
          refine J.rd (Rd.bin' rfl rfl rfl (fun _ => rfl)) rfl rfl ?_
          first | refine J.val (wI64 ⟨by omega, by omega⟩) ?_ | skip
          refine J.rd (Rd.move rfl) rfl rfl ?_
          refine J.rd (Rd.bin' rfl rfl rfl (fun _ => rfl)) rfl rfl ?_
          first | refine J.val (wI64 ⟨by omega, by omega⟩) ?_ | skip
          refine J.val (show _ = Value.int .i64 ((refN (L.drop i) (k + 1) : Nat) : Int) from congrArg (Value.int .i64) (by rw [refN, hcl, idx0]; first | (rw [if_pos hc64]; omega) | (rw [if_neg hc64]; omega))) ?_
          refine J.rd (Rd.assign rfl) rfl rfl ?_
          refine J.done ?_
          refine J.blockN ?_
          refine J.thenN ?_
          refine J.region ?_
          refine J.rd (Rd.move rfl) rfl rfl ?_
          refine J.rd (Rd.bin' rfl rfl rfl (fun _ => rfl)) rfl rfl ?_
          first | refine J.val (wI64 ⟨by omega, by omega⟩) ?_ | skip
          
          refine J.rd (Rd.assign rfl) rfl rfl ?_
          refine J.done ?_
          refine J.thenN ?_
          refine J.again k (k + 1) ?_ (.cons rfl (.cons rfl (.cons rfl (.cons rfl (.cons ?_ (.cons rfl .nil)))))) (fun w hw => ⟨by omega, hw⟩)
          · show 4 - (k + 1) < 4 - k; omega
          · skip
            have e7 : refLeft (L.drop i) (k + 1) = refLeft (L.drop i) k := by rw [refLeft, hcl, if_neg (fun h => hc64 h.1)]
            rw [e7]; rfl
    · skip
      refine J.exit ?_
      refine J.thenE ?_
      refine J.thenE ?_
      refine J.blockE ?_
      refine J.thenN ?_
      refine J.seq ?_
      have hk4 : k = 4 := by simp at hb2; omega
      subst hk4
      have hrn' : refN (L.drop i) 4 < 16777216 := hrn
      refine J.region ?_
      refine J.rd (Rd.move rfl) rfl rfl ?_
      refine J.rd (Rd.quo rfl rfl (by first | decide | omega)) rfl rfl ?_
      first | refine J.val (wQ ⟨by omega, by omega, by omega⟩) ?_ | skip
      refine J.rd (Rd.convI rfl Tryd.underlying3 Tryd.underlying5) rfl rfl ?_
      first | refine J.val (wU8 ⟨by omega, by omega⟩) ?_ | skip
      refine J.val (show _ = Value.int .u8 (((UInt8.ofNat (refN (L.drop i) 4 / 65536)).toNat : Nat) : Int) from congrArg (Value.int .u8) (by rw [ofN _ (by omega)]; omega)) ?_
      refine J.rd (Rd.move rfl) rfl rfl ?_
      refine J.rd (Rd.quo rfl rfl (by first | decide | omega)) rfl rfl ?_
      first | refine J.val (wQ ⟨by omega, by omega, by omega⟩) ?_ | skip
      refine J.rd (Rd.rem rfl rfl (by first | decide | omega)) rfl rfl ?_
      first | refine J.val (wR (by omega) _) ?_ | skip
      refine J.rd (Rd.convI rfl Tryd.underlying3 Tryd.underlying5) rfl rfl ?_
      first | refine J.val (wU8 ⟨by omega, by omega⟩) ?_ | skip
      refine J.val (show _ = Value.int .u8 (((UInt8.ofNat (refN (L.drop i) 4 / 256 % 256)).toNat : Nat) : Int) from congrArg (Value.int .u8) (by rw [ofN _ (by omega)]; omega)) ?_
      refine J.rd (Rd.move rfl) rfl rfl ?_
      refine J.rd (Rd.rem rfl rfl (by first | decide | omega)) rfl rfl ?_
      first | refine J.val (wR (by omega) _) ?_ | skip
      refine J.rd (Rd.convI rfl Tryd.underlying3 Tryd.underlying5) rfl rfl ?_
      first | refine J.val (wU8 ⟨by omega, by omega⟩) ?_ | skip
      refine J.val (show _ = Value.int .u8 (((UInt8.ofNat (refN (L.drop i) 4 % 256)).toNat : Nat) : Int) from congrArg (Value.int .u8) (by rw [ofN _ (by omega)]; omega)) ?_
      refine J.litA (xs := [.tmp 66, .tmp 70, .tmp 73]) ti5 Tryd.underlying27 rfl (by simp [Value.cells]) rfl (by decide) rfl rfl rfl (fun b74 => ?_)
      refine J.ownRow (n := 3) (b := b74) rfl ?_
      refine J.rd (Rd.assign rfl) rfl rfl ?_
      refine J.done ?_
      refine J.thenN ?_
      refine J.region ?_
      refine J.rd (Rd.move rfl) rfl rfl ?_
      refine J.rd (Rd.move rfl) rfl rfl ?_
      refine J.rd (Rd.move rfl) rfl rfl ?_
      refine J.rd (Rd.cutR (l := 0) (h := refLeft (L.drop i) 4) Tryd.underlying27 ti5 rfl (fun w hw => ⟨SlR_own hw, CapOk_own hw⟩) ⟨rfl, rfl⟩ ⟨_, rfl, rfl⟩ (by omega) (by show refLeft (L.drop i) 4 ≤ 3; omega)) rfl rfl ?_
      refine J.app (m := refLeft (L.drop i) 4) ti5 Tryd.underlying27 Tryd.underlying27 (.inl ⟨_, rfl⟩) rfl rfl (fun w hw => Src.cutT (l := [UInt8.ofNat (refN (L.drop i) 4 / 65536), UInt8.ofNat (refN (L.drop i) 4 / 256 % 256), UInt8.ofNat (refN (L.drop i) 4 % 256)]) (SlR_own hw) (CapOk_own hw) (show _ ≤ 3 by omega)) (one_bytesV _) (by omega) (by omega) rfl (by omega) rfl rfl (fun b79 c79 => ?_)
      refine J.rd (Rd.assign rfl) rfl rfl ?_
      refine J.done ?_
      refine J.blockN ?_
      refine J.thenN ?_
      refine J.region ?_
      refine J.rd (Rd.move rfl) rfl rfl ?_
      refine J.rd (Rd.bin' rfl rfl rfl (fun _ => rfl)) rfl rfl ?_
      first | refine J.val (wI64 ⟨by omega, by omega⟩) ?_ | skip
      refine J.val (show _ = Value.int .i64 ((i + 4 : Nat) : Int) from congrArg (Value.int .i64) (by omega)) ?_
      refine J.rd (Rd.assign rfl) rfl rfl ?_
      refine J.done ?_
      refine J.thenN ?_
      have hlen : i + 3 < L.length := by simp at hb1; omega
      refine J.again (i, o, v) (i + 4, o ++ [UInt8.ofNat (refN (L.drop i) 4 / 65536), UInt8.ofNat (refN (L.drop i) 4 / 256 % 256), UInt8.ofNat (refN (L.drop i) 4 % 256)].take (refLeft (L.drop i) 4), .slice b79 (o.length + refLeft (L.drop i) 4) c79) ?_ (.cons rfl (.cons rfl (.cons rfl .nil))) (fun w hw => ⟨⟨?_, by simp only; omega⟩, ?_⟩)
      · show L.length + 4 - (i + 4) < L.length + 4 - i; omega
      · simp only
        rw [← hq1, refDec_step hlen, refBytes_eq]
        simp
      · have hlt : ([UInt8.ofNat (refN (L.drop i) 4 / 65536), UInt8.ofNat (refN (L.drop i) 4 / 256 % 256), UInt8.ofNat (refN (L.drop i) 4 % 256)].take (refLeft (L.drop i) 4)).length = refLeft (L.drop i) 4 := by simp; omega
        simp only [List.length_append, hlt, bytesV_append]
        exact St.sub hw
  · skip
    refine J.exit ?_
    refine J.thenE ?_
    refine J.thenE ?_
    refine J.blockE ?_
    refine J.thenN ?_
    refine J.seq ?_
    refine J.region ?_
    refine J.rd (Rd.move rfl) rfl rfl ?_
    refine J.rd (Rd.move rfl) rfl rfl ?_
    refine J.call can20 rfl (fun w hC => RSeal_calls (l := o) (fun w hw => SlR_own hw) hol hC) rfl rfl (fun v82 => ?_)
    refine J.andC fun hv82 => ?_
    subst hv82
    refine J.rd (Rd.move rfl) rfl rfl ?_
    refine J.rd (Rd.bin' rfl rfl rfl (fun _ => rfl)) rfl rfl ?_
    refine J.rd (Rd.assign rfl) rfl rfl ?_
    refine J.rd (Rd.assign rfl) rfl rfl ?_
    refine J.done ?_
    refine J.thenN ?_
    refine J.ret ?_
    refine J.leave2 (.inr rfl) rfl rfl rfl (fun w' hC => ?_)
    have he := refDec_end (s := L) (i := i) (by simp at hb1; omega)
    rw [he, List.append_nil] at hq1
    subst hq1
    refine ⟨v, ?_, hC⟩
    rw [str_eq, hL]
end Go.Proofs.YtdpfdpmjnifanaaDoor.Refseal
