/- the document's Block, title, Part. -/
import Derived.Test.YtdpfdpmjnifanaaDoorProg
import Derived.KernelRfl
import Derived.Test.YtdpfdpmjnifanaaDoorPart
import Derived.Test.YtdpfdpmjnifanaaDoorReftitle
import Derived.Test.YtdpfdpmjnifanaaDoorMixed
namespace Go.Proofs.YtdpfdpmjnifanaaDoor.Rpart
open Go Go.RowKit Go.Sb
set_option maxRecDepth 100000
set_option linter.unusedVariables false
set_option linter.unusedSimpArgs false
theorem mixed : Tryd.prog.follows .mixedOrders = true := by kernel_rfl
theorem ti3 : TI Tryd.prog 3 1 8 (.int .i64 0) := TI.of (by kernel_rfl)
theorem ti5 : TI Tryd.prog 5 1 1 (.int .u8 0) := TI.of (by kernel_rfl)
theorem ti27 : TI Tryd.prog 27 1 24 (.slice none 0 0) := TI.of (by kernel_rfl)
theorem ti67 : TI Tryd.prog 67 3 48 (.agg #[.bool false, .string .empty, .slice none 0 0]) := TI.of (by kernel_rfl)
theorem fd61_0 : FD Tryd.prog 61 0 0 := FD.of Tryd.underlying61 (by kernel_rfl)
theorem fd61_1 : FD Tryd.prog 61 1 1 := FD.of Tryd.underlying61 (by kernel_rfl)
theorem fd61_2 : FD Tryd.prog 61 2 2 := FD.of Tryd.underlying61 (by kernel_rfl)
theorem fd61_3 : FD Tryd.prog 61 3 3 := FD.of Tryd.underlying61 (by kernel_rfl)
theorem fd67_0 : FD Tryd.prog 67 0 0 := FD.of Tryd.underlying67 (by kernel_rfl)
theorem fd67_2 : FD Tryd.prog 67 2 2 := FD.of Tryd.underlying67 (by kernel_rfl)
theorem bd67 : BD Tryd.prog 67 [(0, 1), (1, 1), (2, 1)] [.bool false, .string .empty, .slice none 0 0] := BD.of Tryd.underlying67 (by kernel_rfl) (by kernel_rfl)
theorem can57 : Callable Tryd.prog 57 := ⟨Tryd.f57, Tryd.func57, by kernel_rfl, by kernel_rfl⟩
theorem can60 : Callable Tryd.prog 60 := ⟨Tryd.f60, Tryd.func60, by kernel_rfl, by kernel_rfl⟩
theorem can83 : Callable Tryd.prog 83 := ⟨Tryd.f83, Tryd.func83, by kernel_rfl, by kernel_rfl⟩

theorem RBlock_calls {Z w : World} {Lf : List HP} (s : ByteArray) (hs : s.size ≤ 4611686018427387904) (hst : St Z w Lf) : Calls Tryd.prog 83 #[.string s] w (Ret fun r w' => St Z w' (own 5 1 r (blockF s.data.toList).length (bytesV (blockF s.data.toList)) :: Lf)) := by
  refine J.enter (N := 25) (l := [.string s]) (C := Sto Z Lf) Tryd.func83 rfl Tryd.ntmps83 (by simp) (hst) ?_
  refine J.seq ?_
  refine J.region ?_
  refine J.rd (Rd.assign rfl) rfl rfl ?_
  refine J.done ?_
  refine J.thenN ?_
  refine J.seq ?_
  refine J.region ?_
  refine J.lit1 ti5 Tryd.underlying27 rfl rfl rfl rfl rfl (fun b4 => ?_)
  refine J.ownRow (n := 1) (b := b4) rfl ?_
  refine J.rd (Rd.move rfl) rfl rfl ?_
  refine J.call can60 rfl (fun w hC => Reftitle.RTitle_calls s hs hC) rfl rfl (fun v6 => ?_)
  refine J.andC fun hv6 => ?_
  subst hv6
  have ht := titleF_le s.data.toList
  generalize hg : titleF s.data.toList = t at ht
  refine J.rd (Rd.cat rfl rfl (by first | (simp [size_mk]; done) | (simp [size_mk, openB]; omega) | (simp [size_mk]; omega))) rfl rfl ?_
  refine J.val (show _ = Value.string ⟨(openB ++ t).toArray⟩ from congrArg Value.string (bcat openB t)) ?_
  refine J.rd (Rd.cat rfl rfl (by first | (simp [size_mk]; done) | (simp [size_mk, openB]; omega) | (simp [size_mk]; omega))) rfl rfl ?_
  refine J.val (show _ = Value.string ⟨(openB ++ t ++ shutB).toArray⟩ from congrArg Value.string (bcat (openB ++ t) shutB)) ?_
  have hXl : (openB ++ t ++ shutB).length = t.length + 15 := by simp [openB, shutB] <;> omega
  generalize hX : openB ++ t ++ shutB = X at hXl
  refine J.convSB Tryd.underlying9 Tryd.underlying27 Tryd.underlying5 rfl rfl rfl (fun b9 c9 => ?_)
  refine J.app (m := X.length) ti5 Tryd.underlying27 Tryd.underlying27 (.inl ⟨_, rfl⟩) rfl rfl (fun w hw => Src.slRB (l := X) (SlR_ro hw)) (one_bytesV _) (by omega) (by omega) rfl (by omega) rfl rfl (fun b10 c10 => ?_)
  refine J.rd (Rd.assign rfl) rfl rfl ?_
  refine J.done ?_
  refine J.thenN ?_
  refine J.seq ?_
  refine J.block ?_
  refine J.loop (σ := Nat × Value) (fun q => (t.length + 30) / 16 * 16 - X.length - q.1) (fun q => [(3, q.2)])
    (fun q w => q.1 ≤ (t.length + 30) / 16 * 16 - X.length ∧ St Z w (own 5 1 q.2 (1 + X.length + q.1) (bytesV ([0] ++ X ++ List.replicate q.1 0)) :: Lf)) (0, .slice b10 (1 + X.length) c10) (.cons rfl .nil) (fun w hw => ⟨Nat.zero_le _, by
      have e : bytesV ([0] ++ X ++ List.replicate 0 0) = [Value.int .u8 0] ++ bytesV X := by simp [bytesV]
      show St Z w (own 5 1 (.slice b10 (1 + X.length) c10) (1 + X.length) (bytesV ([0] ++ X ++ List.replicate 0 0)) :: Lf)
      rw [e]
      exact St.sub hw⟩) ?_
  rintro ⟨k, v⟩
  refine J.andC fun hk => ?_
  simp only at hk
  simp only
  refine J.seq ?_
  refine J.seq ?_
  refine J.region ?_
  refine J.rd (Rd.move rfl) rfl rfl ?_
  refine J.rd (Rd.lenOwn rfl rfl Tryd.underlying27) rfl rfl ?_
  refine J.rd (Rd.rem rfl rfl (by first | decide | omega)) rfl rfl ?_
  first | refine J.val (wR (by omega) _) ?_ | skip
  refine J.rd (Rd.bin' rfl rfl rfl (fun _ => rfl)) rfl rfl ?_
  refine J.done ?_
  refine J.thenN ?_
  refine J.cond rfl (fun hb1 => ?_) (fun hb1 => ?_)
  · skip
    refine J.skip ?_
    refine J.thenN ?_
    refine J.block ?_
    refine J.region ?_
    refine J.rd (Rd.move rfl) rfl rfl ?_
    refine J.lit1 ti5 Tryd.underlying27 rfl rfl rfl rfl rfl (fun b16 => ?_)
    refine J.app1 ti5 Tryd.underlying27 rfl rfl rfl (by omega) (by omega) rfl rfl rfl (fun b17 c17 => ?_)
    refine J.rd (Rd.assign rfl) rfl rfl ?_
    refine J.done ?_
    refine J.blockN ?_
    refine J.thenN ?_
    refine J.again (k, v) (k + 1, .slice b17 (1 + X.length + k + 1) c17) ?_ (.cons rfl .nil) (fun w hw => ⟨?_, ?_⟩)
    · show (t.length + 30) / 16 * 16 - X.length - (k + 1) < (t.length + 30) / 16 * 16 - X.length - k
      simp at hb1; omega
    · simp at hb1 ⊢; omega
    · have e : bytesV ([0] ++ X ++ List.replicate (k + 1) 0) = bytesV ([0] ++ X ++ List.replicate k 0) ++ [Value.int .u8 0] := by rw [List.replicate_succ', ← List.append_assoc, bytesV_append]; rfl
      simp only [e]
      exact hw
  · skip
    refine J.exit ?_
    refine J.thenE ?_
    refine J.thenE ?_
    refine J.blockE ?_
    refine J.thenN ?_
    refine J.seq ?_
    have hkT : k = (t.length + 30) / 16 * 16 - X.length := by simp at hb1; omega
    refine J.region ?_
    refine J.rd (Rd.move rfl) rfl rfl ?_
    refine J.rd (Rd.move rfl) rfl rfl ?_
    refine J.rd (Rd.lenOwn rfl rfl Tryd.underlying27) rfl rfl ?_
    refine J.rd (Rd.quo rfl rfl (by first | decide | omega)) rfl rfl ?_
    first | refine J.val (wQ ⟨by omega, by omega, by omega⟩) ?_ | skip
    refine J.rd (Rd.convI rfl Tryd.underlying3 Tryd.underlying5) rfl rfl ?_
    first | refine J.val (wU8 ⟨by omega, by omega⟩) ?_ | skip
    refine J.val (show _ = Value.int .u8 ((UInt8.ofNat ((t.length + 30) / 16)).toNat : Nat) from congrArg (Value.int .u8) (by rw [ofN _ (by omega)]; omega)) ?_
    refine J.idxA (v := v) (i := 0) ti5 Tryd.underlying27 rfl rfl (by omega) rfl rfl (fun gb23 o23 had23 => ?_)
    refine J.stoO (v := v) had23 (q := 0) rfl ti5 rfl rfl (by simp [bytesV]) rfl rfl ?_
    refine J.done ?_
    refine J.thenN ?_
    refine J.seq ?_
    refine J.region ?_
    refine J.rd (Rd.move rfl) rfl rfl ?_
    refine J.rd (Rd.assign rfl) rfl rfl ?_
    refine J.done ?_
    refine J.thenN ?_
    refine J.ret ?_
    refine J.leave1 (.inr rfl) rfl rfl (fun w' hC => ?_)
    have e : blockF s.data.toList = [UInt8.ofNat ((t.length + 30) / 16)] ++ X ++ List.replicate k 0 := by
      unfold blockF blockOf
      rw [hg, hX, hkT, hXl]
    have e2 : (bytesV ([0] ++ X ++ List.replicate k 0)).set (0 * 1 + 0) (Value.int .u8 ((UInt8.ofNat ((t.length + 30) / 16)).toNat : Nat)) = bytesV (blockF s.data.toList) := by
      rw [e]; simp [bytesV]
    have e3 : (blockF s.data.toList).length = 1 + X.length + k := by rw [e]; simp; omega
    rw [e3, ← e2]
    exact hC

theorem rtitle_calls {Z w : World} {Lf : List HP} {v : Value} {b : List UInt8} (hr : ∀ w, St Z w Lf → SlR w v (bytesV b) ∧ CapOk v) (hl : b.length ≤ 1000000) (hst : St Z w Lf) : Calls Tryd.prog 57 #[v] w (Ret fun r w' => r = .tuple #[.string ⟨((ttl b).getD []).toArray⟩, .bool (ttl b).isSome] ∧ St Z w' Lf) := by
  refine J.enter (N := 32) (l := [v]) (C := Sto Z Lf) Tryd.func57 rfl Tryd.ntmps57 (by simp) (hst) ?_
  refine J.seq ?_
  refine J.region ?_
  refine J.rd (Rd.assign rfl) rfl rfl ?_
  refine J.rd (Rd.assign rfl) rfl rfl ?_
  refine J.done ?_
  refine J.thenN ?_
  refine J.seq ?_
  refine J.seq ?_
  refine J.region ?_
  refine J.rd (Rd.assign rfl) rfl rfl ?_
  refine J.done ?_
  refine J.thenN ?_
  refine J.block ?_
  refine J.loop (σ := Nat) (fun n => b.length + 1 - n) (fun n => [(0, v), (4, .int .i64 (n : Int))])
    (fun n w => ((∀ m, m < n → ¬ refTtlAt b m) ∧ n ≤ b.length) ∧ St Z w Lf) 0 (.cons rfl (.cons rfl .nil)) (fun w hw => ⟨⟨fun m hm => by omega, Nat.zero_le _⟩, hw⟩) ?_
  intro n
  refine J.andC fun hq => ?_
  obtain ⟨hq1, hq2⟩ := hq
  refine J.seq ?_
  refine J.seq ?_
  refine J.region ?_
  refine J.rd (Rd.move rfl) rfl rfl ?_
  refine J.rd (Rd.bin' rfl rfl rfl (fun _ => rfl)) rfl rfl ?_
  first | refine J.val (wI64 ⟨by omega, by omega⟩) ?_ | skip
  refine J.rd (Rd.move rfl) rfl rfl ?_
  refine J.rd (Rd.lenR Tryd.underlying27 rfl (fun w hw => (hr w (St.sub hw)).1) rfl) rfl rfl ?_
  refine J.rd (Rd.bin' rfl rfl rfl (fun _ => rfl)) rfl rfl ?_
  refine J.done ?_
  refine J.thenN ?_
  refine J.cond rfl (fun hb1 => ?_) (fun hb1 => ?_)
  · skip
    refine J.skip ?_
    refine J.thenN ?_
    refine J.seq ?_
    refine J.block ?_
    refine J.seq ?_
    have hn15 : n + 15 ≤ b.length := by simp [length_bytesV] at hb1; omega
    refine J.region ?_
    refine J.rd (Rd.move rfl) rfl rfl ?_
    refine J.rd (Rd.move rfl) rfl rfl ?_
    refine J.rd (Rd.bin' rfl rfl rfl (fun _ => rfl)) rfl rfl ?_
    first | refine J.val (wI64 ⟨by omega, by omega⟩) ?_ | skip
    refine J.val (show _ = Value.int .i64 ((13 + n : Nat) : Int) from congrArg (Value.int .i64) (by omega)) ?_
    refine J.rd (Rd.cutR (l := 13) (h := 13 + n) Tryd.underlying27 ti5 rfl (fun w hw => hr w (St.sub hw)) ⟨_, rfl, rfl⟩ ⟨_, rfl, rfl⟩ (by omega) (by rw [length_bytesV]; omega)) rfl rfl ?_
    refine J.rd (Rd.convBS Tryd.underlying27 Tryd.underlying9 rfl (fun w hw => SlR.cutB (hr w (St.sub hw)).1 (hr w (St.sub hw)).2 (by omega) (by omega)) Tryd.underlying5) rfl rfl ?_
    refine J.val (show _ = Value.string ⟨((b.drop 13).take n).toArray⟩ from by rw [Nat.add_sub_cancel_left]) ?_
    generalize hu : (b.drop 13).take n = u
    have hul : u.length ≤ 1000000 := by rw [← hu]; simp; omega
    have hbl := Part.blockF_len u
    refine J.rd (Rd.assign rfl) rfl rfl ?_
    refine J.done ?_
    refine J.thenN ?_
    refine J.seq ?_
    refine J.mix [(true, 0), (true, 2), (false, 1), (true, 3), (true, 4), (true, 5), (true, 9), (true, 10), (false, 6), (true, 7), (true, 8), (true, 11), (true, 12)] mixed (by kernel_rfl) (fun w n h => St.drawn h n) (fun _ hw => hw) ?_
    refine JM.rd rfl (Rd.move rfl) rfl rfl ?_
    refine JM.rd rfl (Rd.move rfl) rfl rfl ?_
    refine JM.eff rfl ?_
    refine J.call can60 rfl (fun w hC => Reftitle.RTitle_calls ⟨u.toArray⟩ (by rw [bsize]; omega) hC) rfl rfl (fun v19 => ?_)
    refine J.andC fun hv19 => ?_
    subst hv19
    refine JM.next (fun _ hw => hw) (fun _ hw => St.sub hw) ?_
    refine JM.rd rfl (Rd.bin' rfl rfl rfl (fun _ => rfl)) rfl rfl ?_
    refine JM.rd rfl (Rd.move rfl) rfl rfl ?_
    refine JM.bcase (fun hb2 => ?_) (fun hb2 => ?_)
    · skip
      refine JM.rd rfl (Rd.move rfl) rfl rfl ?_
      refine JM.rd rfl (Rd.move rfl) rfl rfl ?_
      refine JM.rd rfl (Rd.convBS Tryd.underlying27 Tryd.underlying9 rfl (fun w hw => (hr w (St.sub hw)).1) Tryd.underlying5) rfl rfl ?_
      refine JM.eff rfl ?_
      refine J.call can83 rfl (fun w hC => RBlock_calls ⟨u.toArray⟩ (by rw [bsize]; omega) hC) rfl rfl (fun v24 => ?_)
      refine JM.next (fun _ hw => hw) (fun _ hw => St.sub hw) ?_
      refine JM.rd rfl (Rd.cutR (l := 1) (h := (bytesV (blockF u)).length) Tryd.underlying27 ti5 rfl (fun w hw => ⟨SlR_own hw, CapOk_own hw⟩) ⟨_, rfl, rfl⟩ ⟨rfl, rfl⟩ (by rw [length_bytesV]; omega) (by exact Nat.le_refl _)) rfl rfl ?_
      refine JM.rd rfl (Rd.convBS Tryd.underlying27 Tryd.underlying9 rfl (fun w hw => SlR.cutDB (SlR_own hw) (CapOk_own hw) hbl.1) Tryd.underlying5) rfl rfl ?_
      refine JM.rd rfl (Rd.bin' rfl rfl rfl (fun _ => rfl)) rfl rfl ?_
      refine JM.rd rfl (Rd.pickT rfl rfl) rfl rfl ?_
      refine JM.done ?_
      refine J.thenN ?_
      refine J.cond rfl (fun hb3 => ?_) (fun hb3 => ?_)
      · skip
        refine J.seq ?_
        refine J.region ?_
        refine J.rd (Rd.move rfl) rfl rfl ?_
        refine J.rd (Rd.assign rfl) rfl rfl ?_
        refine J.rd (Rd.assign rfl) rfl rfl ?_
        refine J.done ?_
        refine J.thenN ?_
        refine J.ret ?_
        refine J.blockR ?_
        refine J.thenR ?_
        refine J.thenR ?_
        refine J.blockR ?_
        refine J.thenR ?_
        refine J.leave2 (.inr rfl) rfl rfl rfl (fun w' hC => ?_)
        have he : ttl b = some u := by
          rw [← hu]
          refine refTtl_some ⟨hn15, ?_, ?_⟩
          · rw [hu]; simpa [str_eq2] using hb2
          · rw [hu]; simpa [str_eq2] using hb3
        rw [he]
        exact ⟨rfl, hC.drop0⟩
      · skip
        refine J.skip ?_
        refine J.blockN ?_
        refine J.thenN ?_
        refine J.region ?_
        refine J.rd (Rd.move rfl) rfl rfl ?_
        refine J.rd (Rd.bin' rfl rfl rfl (fun _ => rfl)) rfl rfl ?_
        first | refine J.val (wI64 ⟨by omega, by omega⟩) ?_ | skip
        refine J.rd (Rd.assign rfl) rfl rfl ?_
        refine J.done ?_
        refine J.thenN ?_
        exact J.again n (n + 1) (by show b.length + 1 - (n + 1) < b.length + 1 - n; omega) (.cons rfl (.cons rfl .nil)) (fun w hw => ⟨⟨fun m hm hmt => by
          rcases Nat.lt_or_ge m n with h | h
          · exact hq1 m h hmt
          · obtain rfl : m = n := by omega
            have := hmt.2.2
            rw [hu] at this
            rw [str_eq2] at hb3
            exact absurd this (by simpa using hb3), by omega⟩, by exact St.sub hw⟩)
    · skip
      refine JM.pass rfl rfl rfl ?_
      refine JM.pass rfl rfl rfl ?_
      refine JM.pass rfl rfl rfl ?_
      refine JM.passE rfl rfl rfl (fun _ hw => hw) ?_
      refine JM.pass rfl rfl rfl ?_
      refine JM.pass rfl rfl rfl ?_
      refine JM.pass rfl rfl rfl ?_
      refine JM.rd rfl (Rd.pickF rfl rfl) rfl rfl ?_
      refine JM.done ?_
      refine J.thenN ?_
      refine J.condF rfl ?_
      refine J.skip ?_
      refine J.blockN ?_
      refine J.thenN ?_
      refine J.region ?_
      refine J.rd (Rd.move rfl) rfl rfl ?_
      refine J.rd (Rd.bin' rfl rfl rfl (fun _ => rfl)) rfl rfl ?_
      first | refine J.val (wI64 ⟨by omega, by omega⟩) ?_ | skip
      refine J.rd (Rd.assign rfl) rfl rfl ?_
      refine J.done ?_
      refine J.thenN ?_
      exact J.again n (n + 1) (by show b.length + 1 - (n + 1) < b.length + 1 - n; omega) (.cons rfl (.cons rfl .nil)) (fun w hw => ⟨⟨fun m hm hmt => by
        rcases Nat.lt_or_ge m n with h | h
        · exact hq1 m h hmt
        · obtain rfl : m = n := by omega
          have := hmt.2.1
          rw [hu] at this
          rw [str_eq2] at hb2
          exact absurd this (by simpa using hb2), by omega⟩, by exact hw⟩)
  · skip
    refine J.exit ?_
    refine J.thenE ?_
    refine J.thenE ?_
    refine J.blockE ?_
    refine J.thenN ?_
    refine J.seq ?_
    refine J.region ?_
    refine J.rd (Rd.assign rfl) rfl rfl ?_
    refine J.rd (Rd.assign rfl) rfl rfl ?_
    refine J.done ?_
    refine J.thenN ?_
    refine J.ret ?_
    refine J.leave2 (.inr rfl) rfl rfl rfl (fun w' hC => ?_)
    have he : ttl b = none := refTtl_none fun m hm hmt => hq1 m (by simp [length_bytesV] at hb1; omega) hmt
    rw [he]
    exact ⟨rfl, hC⟩

/-- How the document's pieces (the last first) stand for cells, and for rows that the call owns. -/
inductive PcsQ : List Pc → List Value → List HP → Prop
  | nil : PcsQ [] [] []
  | told {ps vs L} (t : List UInt8) : PcsQ ps vs L → PcsQ (.told t :: ps) (vs ++ [.bool true, .string ⟨t.toArray⟩, .slice none 0 0]) L
  | snd {ps vs L} (l : List UInt8) (sv : Value) : PcsQ ps vs L → PcsQ (.snd l :: ps) (vs ++ [.bool false, .string .empty, sv]) (own 5 1 sv l.length (bytesV l) :: L)
theorem PcsQ.len {ps vs L} (h : PcsQ ps vs L) : vs.length = ps.length * 3 := by
  induction h with
  | nil => rfl
  | told t _ ih => simp [ih]; omega
  | snd l sv _ ih => simp [ih]; omega
theorem PcsQ.head {ps vs L} (h : PcsQ ps vs L) (c : UInt8) (h0 : 0 < ps.length) : ∃ isT : Bool, vs[(ps.length - 1) * 3 + 0]? = some (.bool isT) ∧ (isT = true → putS c ps = .snd [c] :: ps) ∧
    (isT = false → ∃ l ps' us sv L', ps = .snd l :: ps' ∧ vs = us ++ [.bool false, .string .empty, sv] ∧ L = own 5 1 sv l.length (bytesV l) :: L' ∧ us.length = ps'.length * 3 ∧ PcsQ ps' us L') := by
  cases h with
  | nil => simp at h0
  | @told ps vs L t h =>
    refine ⟨true, ?_, fun _ => rfl, fun e => by cases e⟩
    have := h.len
    rw [List.length_cons, Nat.add_sub_cancel, Nat.add_zero, ← this]; simp
  | @snd ps vs L l sv h =>
    refine ⟨false, ?_, fun e => (by cases e), fun _ => ⟨l, ps, vs, sv, L, rfl, rfl, rfl, h.len, h⟩⟩
    have := h.len
    rw [List.length_cons, Nat.add_sub_cancel, Nat.add_zero, ← this]; simp
theorem PcsQ.get {ps vs L} (h : PcsQ ps vs L) : ∀ k, k < ps.length → (∃ t, ps[ps.length - 1 - k]? = some (.told t) ∧ vs[k * 3 + 0]? = some (.bool true) ∧ vs[k * 3 + 1]? = some (.string ⟨t.toArray⟩) ∧ vs[k * 3 + 2]? = some (.slice none 0 0)) ∨
    (∃ (l : List UInt8) (sv : Value) (i : Nat), ps[ps.length - 1 - k]? = some (.snd l) ∧ vs[k * 3 + 0]? = some (.bool false) ∧ vs[k * 3 + 1]? = some (.string .empty) ∧ vs[k * 3 + 2]? = some sv ∧ L[i]? = some (own 5 1 sv l.length (bytesV l))) := by
  induction h with
  | nil => intro k hk; simp at hk
  | @told ps vs L t h ih =>
    intro k hk
    have hl := h.len
    simp only [List.length_cons] at hk
    by_cases e : k = ps.length
    · subst e
      left
      refine ⟨t, ?_, ?_, ?_, ?_⟩
      · rw [List.length_cons, show ps.length + 1 - 1 - ps.length = 0 by omega]; rfl
      all_goals (rw [← hl]; simp)
    · have hk2 : k < ps.length := by omega
      have ap : ∀ j, j < 3 → (vs ++ [Value.bool true, .string ⟨t.toArray⟩, .slice none 0 0])[k * 3 + j]? = vs[k * 3 + j]? := fun j hj => List.getElem?_append_left (by omega)
      rw [List.length_cons, show ps.length + 1 - 1 - k = (ps.length - 1 - k) + 1 by omega, List.getElem?_cons_succ, ap 0 (by omega), ap 1 (by omega), ap 2 (by omega)]
      exact ih k hk2
  | @snd ps vs L l sv h ih =>
    intro k hk
    have hl := h.len
    simp only [List.length_cons] at hk
    by_cases e : k = ps.length
    · subst e
      right
      refine ⟨l, sv, 0, ?_, ?_, ?_, ?_, rfl⟩
      · rw [List.length_cons, show ps.length + 1 - 1 - ps.length = 0 by omega]; rfl
      all_goals (rw [← hl]; simp)
    · have hk2 : k < ps.length := by omega
      have ap : ∀ j, j < 3 → (vs ++ [Value.bool false, .string .empty, sv])[k * 3 + j]? = vs[k * 3 + j]? := fun j hj => List.getElem?_append_left (by omega)
      rw [List.length_cons, show ps.length + 1 - 1 - k = (ps.length - 1 - k) + 1 by omega, List.getElem?_cons_succ, ap 0 (by omega), ap 1 (by omega), ap 2 (by omega)]
      rcases ih k hk2 with h1 | ⟨l', sv', i, h1, h2, h3, h4, h5⟩
      · exact .inl h1
      · exact .inr ⟨l', sv', i + 1, h1, h2, h3, h4, by simpa using h5⟩

theorem RPart_calls {Z w : World} {Lf : List HP} {p n left : Nat} {bv dv : Value} {block data : List UInt8} (every : Nat) (hr : ∀ w, St Z w Lf → SlR w dv (bytesV data)) (hl : data.length ≤ 100000) (hn : n ≤ 1000000000) (hb : block.length + left ≤ 4080) (hb0 : left = 0 → block = [])
    (hst : St Z w (pts p (.cells [.int .i64 (every : Nat), .int .i64 (n : Nat), .int .i64 (left : Nat), bv].toArray 61 (0, 0)) :: own 5 1 bv block.length (bytesV block) :: Lf)) :
    Calls Tryd.prog 30 #[.pointer (some ⟨p, 0, none⟩), dv] w (Ret fun r w' => ∃ v bv' vs L, r = .tuple #[v, .bool (ptRun every ⟨n, left, block, true, []⟩ data).ok] ∧ PcsQ (ptRun every ⟨n, left, block, true, []⟩ data).out vs L ∧
      St Z w' (own 67 3 v (ptRun every ⟨n, left, block, true, []⟩ data).out.length vs :: pts p (.cells [.int .i64 (every : Nat), .int .i64 ((ptRun every ⟨n, left, block, true, []⟩ data).n : Nat), .int .i64 ((ptRun every ⟨n, left, block, true, []⟩ data).left : Nat), bv'].toArray 61 (0, 0)) :: own 5 1 bv' (ptRun every ⟨n, left, block, true, []⟩ data).block.length (bytesV (ptRun every ⟨n, left, block, true, []⟩ data).block) :: (L ++ Lf))) := by
  refine J.enter (N := 143) (l := [.pointer (some ⟨p, 0, none⟩), dv]) (C := Sto Z (pts p (.cells [.int .i64 (every : Nat), .int .i64 (n : Nat), .int .i64 (left : Nat), bv].toArray 61 (0, 0)) :: own 5 1 bv block.length (bytesV block) :: Lf)) Tryd.func30 rfl Tryd.ntmps30 (by simp) (hst) ?_
  refine J.seq ?_
  refine J.region ?_
  refine J.rd (Rd.assign rfl) rfl rfl ?_
  refine J.rd (Rd.assign rfl) rfl rfl ?_
  refine J.done ?_
  refine J.thenN ?_
  refine J.seq ?_
  refine J.region ?_
  refine J.rd (Rd.assign rfl) rfl rfl ?_
  refine J.done ?_
  refine J.thenN ?_
  refine J.seq ?_
  refine J.region ?_
  refine J.rd (Rd.assign rfl) rfl rfl ?_
  refine J.done ?_
  refine J.thenN ?_
  refine J.seq ?_
  refine J.seq ?_
  refine J.region ?_
  refine J.rd (Rd.assign rfl) rfl rfl ?_
  refine J.done ?_
  refine J.thenN ?_
  refine J.block ?_
  refine J.loop (σ := Nat × Value × Value × List Value × List HP) (fun q => data.length - q.1) (fun q => [(0, .pointer (some ⟨p, 0, none⟩)), (1, dv), (8, .int .i64 (q.1 : Int)), (6, q.2.1), (7, .bool (ptRun every ⟨n, left, block, true, []⟩ (data.take q.1)).ok)])
    (fun q w => (q.1 ≤ data.length ∧ PcsQ (ptRun every ⟨n, left, block, true, []⟩ (data.take q.1)).out q.2.2.2.1 q.2.2.2.2) ∧ St Z w (own 67 3 q.2.1 (ptRun every ⟨n, left, block, true, []⟩ (data.take q.1)).out.length q.2.2.2.1 :: pts p (.cells [.int .i64 (every : Nat), .int .i64 ((ptRun every ⟨n, left, block, true, []⟩ (data.take q.1)).n : Nat), .int .i64 ((ptRun every ⟨n, left, block, true, []⟩ (data.take q.1)).left : Nat), q.2.2.1].toArray 61 (0, 0)) :: own 5 1 q.2.2.1 (ptRun every ⟨n, left, block, true, []⟩ (data.take q.1)).block.length (bytesV (ptRun every ⟨n, left, block, true, []⟩ (data.take q.1)).block) :: (q.2.2.2.2 ++ Lf)))
    (0, .slice none 0 0, bv, [], []) (.cons rfl (.cons rfl (.cons rfl (.cons rfl (.cons rfl .nil))))) (fun w hw => ⟨⟨Nat.zero_le _, .nil⟩, St.ownNil 67 3 hw⟩) ?_
  rintro ⟨k, v, bv1, vs, Lp⟩
  refine J.andC fun hq => ?_
  obtain ⟨hq1, hq2⟩ := hq
  have hok := Part.pt_ok (every := every) (n := n) (s := ⟨n, left, block, true, []⟩) ⟨Nat.le_refl _, hb, hb0, by simp, by simp [soundOf]⟩ (data.take k)
  generalize hS : ptRun every ⟨n, left, block, true, []⟩ (data.take k) = S at hok hq2
  obtain ⟨n1, left1, block1, ok1, out1⟩ := S
  obtain ⟨o1, o2, o3, o4, o5⟩ := hok
  simp only [List.length_take] at o1 o2 o3 o4 o5 hq1 hq2
  simp only [hS]
  have hvl := hq2.len
  have hoff : ∀ w {X Y U : HP}, St Z w (X :: Y :: U :: (Lp ++ Lf)) → St Z w Lf := fun w _ _ _ h => St.offL h.drop0.drop0.drop0
  refine J.seq ?_
  refine J.seq ?_
  refine J.region ?_
  refine J.rd (Rd.move rfl) rfl rfl ?_
  refine J.rd (Rd.move rfl) rfl rfl ?_
  refine J.rd (Rd.lenR Tryd.underlying27 rfl (fun w hw => hr w (hoff w hw)) rfl) rfl rfl ?_
  refine J.rd (Rd.bin' rfl rfl rfl (fun _ => rfl)) rfl rfl ?_
  refine J.done ?_
  refine J.thenN ?_
  refine J.cond rfl (fun hb1 => ?_) (fun hb1 => ?_)
  · skip
    refine J.skip ?_
    refine J.thenN ?_
    refine J.seq ?_
    refine J.block ?_
    refine J.seq ?_
    refine J.seq ?_
    have hlt : k < data.length := by simp [length_bytesV] at hb1; omega
    obtain ⟨c, hc⟩ : ∃ c, data[k]? = some c := ⟨_, List.getElem?_eq_getElem hlt⟩
    have hc256 := c.toNat_lt
    have hkl : k < (bytesV data).length := by rw [length_bytesV]; exact hlt
    refine J.region ?_
    refine J.rd (Rd.move rfl) rfl rfl ?_
    refine J.rd (Rd.nilCheck rfl) rfl rfl ?_
    refine J.rd (Rd.fld fd61_2 rfl) rfl rfl ?_
    refine J.rd (Rd.ld Tryd.underlying3 rfl rfl rfl) rfl rfl ?_
    refine J.rd (Rd.bin' rfl rfl rfl (fun _ => rfl)) rfl rfl ?_
    refine J.done ?_
    refine J.thenN ?_
    refine J.cond rfl (fun hb2 => ?_) (fun hb2 => ?_)
    · skip
      refine J.seq ?_
      refine J.elemR (v := dv) (fun w hw => hr w (hoff w hw)) (bytesV_get hc) (fun ad30 hadp30 hv30 hcell30 => ?_)
      refine J.mixN [(true, 0), (true, 1), (true, 2), (true, 3), (true, 4), (true, 5), (true, 6), (true, 7), (true, 8), (false, 9), (false, 10), (true, 11), (true, 12), (false, 13)] mixed (by kernel_rfl) (fun w n h => St.drawn h n) ?_
      refine JN.rp rfl (Rd.move rfl) rfl rfl ?_
      refine JN.rp rfl (Rd.move rfl) rfl rfl ?_
      refine JN.rp rfl (Rd.nilCheck rfl) rfl rfl ?_
      refine JN.rp rfl (Rd.fld fd61_3 rfl) rfl rfl ?_
      refine JN.rd rfl (Rd.ld Tryd.underlying27 rfl rfl rfl) rfl rfl ?_
      refine JN.rp rfl (Rd.move rfl) rfl rfl ?_
      refine JN.rp rfl (Rd.move rfl) rfl rfl ?_
      refine JN.rp rfl (Rd.idxP ti5 Tryd.underlying27 hv30 rfl rfl (hkl) hadp30) rfl rfl ?_
      refine JN.rd rfl (Rd.load rfl Tryd.underlying5 rfl (hcell30)) rfl rfl ?_
      refine JN.eff rfl (fun S_ hS_ => ?_)
      refine J.lit1 ti5 Tryd.underlying27 rfl rfl rfl rfl rfl (fun b32 => ?_)
      refine JN.next hS_ (.drop rfl (.keep (fun _ hw => St.sub hw) (.nil))) ?_
      refine JN.eff rfl (fun S_ hS_ => ?_)
      refine J.app1 ti5 Tryd.underlying27 rfl rfl rfl (by omega) (by omega) rfl rfl rfl (fun b33 c33 => ?_)
      refine JN.next hS_ (.drop rfl (.nil)) ?_
      refine JN.rp rfl (Rd.nilCheck rfl) rfl rfl ?_
      refine JN.rp rfl (Rd.fld fd61_3 rfl) rfl rfl ?_
      refine JN.eff rfl (fun S_ hS_ => ?_)
      refine J.sto ti27 rfl rfl rfl rfl ?_
      refine JN.next hS_ (.nil) ?_
      refine JN.done ?_
      refine J.thenN ?_
      refine J.seq ?_
      refine J.region ?_
      refine J.rd (Rd.move rfl) rfl rfl ?_
      refine J.rd (Rd.move rfl) rfl rfl ?_
      refine J.rd (Rd.nilCheck rfl) rfl rfl ?_
      refine J.rd (Rd.fld fd61_2 rfl) rfl rfl ?_
      refine J.rd (Rd.ld Tryd.underlying3 rfl rfl rfl) rfl rfl ?_
      refine J.rd (Rd.bin' rfl rfl rfl (fun _ => rfl)) rfl rfl ?_
      first | refine J.val (wI64 ⟨by omega, by omega⟩) ?_ | skip
      refine J.val (show _ = Value.int .i64 ((left1 - 1 : Nat) : Int) from congrArg (Value.int .i64) (by simp at hb2; omega)) ?_
      refine J.rd (Rd.nilCheck rfl) rfl rfl ?_
      refine J.rd (Rd.fld fd61_2 rfl) rfl rfl ?_
      refine J.sto ti3 rfl rfl rfl rfl ?_
      refine J.done ?_
      refine J.thenN ?_
      refine J.seq ?_
      refine J.seq ?_
      refine J.region ?_
      refine J.rd (Rd.move rfl) rfl rfl ?_
      refine J.rd (Rd.nilCheck rfl) rfl rfl ?_
      refine J.rd (Rd.fld fd61_2 rfl) rfl rfl ?_
      refine J.rd (Rd.ld Tryd.underlying3 rfl rfl rfl) rfl rfl ?_
      refine J.rd (Rd.bin' rfl rfl rfl (fun _ => rfl)) rfl rfl ?_
      refine J.done ?_
      refine J.thenN ?_
      refine J.cond rfl (fun hb3 => ?_) (fun hb3 => ?_)
      · skip
        refine J.seq ?_
        refine J.region ?_
        refine J.rd (Rd.move rfl) rfl rfl ?_
        refine J.rd (Rd.nilCheck rfl) rfl rfl ?_
        refine J.rd (Rd.fld fd61_3 rfl) rfl rfl ?_
        refine J.rd (Rd.ld Tryd.underlying27 rfl rfl rfl) rfl rfl ?_
        refine J.call can57 rfl (fun w hC => rtitle_calls (b := block1 ++ [c]) (fun w hw => ⟨by rw [bytesV_append]; exact SlR_own hw, CapOk_own hw⟩) (by simp; omega) hC) rfl rfl (fun v54 => ?_)
        refine J.andC fun hv54 => ?_
        subst hv54
        refine J.rd (Rd.move rfl) rfl rfl ?_
        refine J.rd (Rd.extractL rfl) rfl rfl ?_
        refine J.rd (Rd.extractL rfl) rfl rfl ?_
        refine J.rd (Rd.assign rfl) rfl rfl ?_
        refine J.rd (Rd.assign rfl) rfl rfl ?_
        refine J.done ?_
        refine J.thenN ?_
        refine J.seq ?_
        refine J.seq ?_
        refine J.region ?_
        refine J.rd (Rd.move rfl) rfl rfl ?_
        refine J.done ?_
        refine J.thenN ?_
        refine J.cond rfl (fun hb4 => ?_) (fun hb4 => ?_)
        · skip
          obtain ⟨t, htt⟩ : ∃ t, ttl (block1 ++ [c]) = some t := Option.isSome_iff_exists.1 hb4
          simp only [htt, Option.getD_some]
          refine J.region ?_
          refine J.rd (Rd.move rfl) rfl rfl ?_
          refine J.rd (Rd.move rfl) rfl rfl ?_
          refine J.rd (Rd.build (ps := [(0, .const (.bool true)), (1, .tmp 59)]) bd67 rfl rfl) rfl rfl ?_
          refine J.val (show _ = Value.agg #[.bool true, .string ⟨t.toArray⟩, .slice none 0 0] from rfl) ?_
          refine J.litS ti67 Tryd.underlying62 rfl rfl rfl (by decide) rfl rfl rfl (fun b61 => ?_)
          refine J.appS ti67 Tryd.underlying62 rfl rfl rfl (by simp [Value.oneCell']) (by omega) (by omega) rfl (by decide) rfl rfl (fun b62 c62 => ?_)
          refine J.rd (Rd.assign rfl) rfl rfl ?_
          refine J.done ?_
          refine J.thenN ?_
          refine J.region ?_
          refine J.rd (Rd.move rfl) rfl rfl ?_
          refine J.rd (Rd.nilCheck rfl) rfl rfl ?_
          refine J.rd (Rd.fld fd61_3 rfl) rfl rfl ?_
          refine J.sto ti27 rfl rfl rfl rfl ?_
          refine J.done ?_
          refine J.thenN ?_
          refine J.exit ?_
          refine J.thenE ?_
          refine J.blockE ?_
          refine J.thenN ?_
          refine J.region ?_
          refine J.rd (Rd.move rfl) rfl rfl ?_
          refine J.rd (Rd.bin' rfl rfl rfl (fun _ => rfl)) rfl rfl ?_
          first | refine J.val (wI64 ⟨by omega, by omega⟩) ?_ | skip
          refine J.rd (Rd.assign rfl) rfl rfl ?_
          refine J.done ?_
          refine J.thenN ?_
          obtain rfl : left1 = 1 := by simp at hb2 hb3; omega
          have hs : ptRun every ⟨n, left, block, true, []⟩ (data.take (k + 1)) = ⟨n1, 0, [], ok1, .told t :: out1⟩ := by
            rw [ptRun_take hc, hS]
            simp only [ptStep]
            rw [if_pos (by omega), if_neg (by omega)]
            simp only [htt]
          refine J.again (k, v, bv1, vs, Lp) (k + 1, .slice b62 (out1.length + 1) c62, .slice none 0 0, vs ++ [.bool true, .string ⟨t.toArray⟩, .slice none 0 0], Lp) ?_ ?_ (fun w hw => ⟨⟨?_, ?_⟩, ?_⟩)
          · show data.length - (k + 1) < data.length - k; omega
          · simp only [hs]
            exact .cons rfl (.cons rfl (.cons rfl (.cons rfl (.cons rfl .nil))))
          · simp only; omega
          · simp only [hs]
            exact PcsQ.told t hq2
          · skip
            simp only [hs, List.length_cons, List.length_nil, Part.bytesV_nil]
            have hw2 := St.ownNil 5 1 hw
            simp only [Nat.sub_self] at hw2
            exact St.sub hw2
        · skip
          have htt : ttl (block1 ++ [c]) = none := by simpa using hb4
          refine J.region ?_
          refine J.rd (Rd.assign rfl) rfl rfl ?_
          refine J.done ?_
          refine J.thenN ?_
          refine J.region ?_
          refine J.rd (Rd.move rfl) rfl rfl ?_
          refine J.rd (Rd.nilCheck rfl) rfl rfl ?_
          refine J.rd (Rd.fld fd61_3 rfl) rfl rfl ?_
          refine J.sto ti27 rfl rfl rfl rfl ?_
          refine J.done ?_
          refine J.thenN ?_
          refine J.exit ?_
          refine J.thenE ?_
          refine J.blockE ?_
          refine J.thenN ?_
          refine J.region ?_
          refine J.rd (Rd.move rfl) rfl rfl ?_
          refine J.rd (Rd.bin' rfl rfl rfl (fun _ => rfl)) rfl rfl ?_
          first | refine J.val (wI64 ⟨by omega, by omega⟩) ?_ | skip
          refine J.rd (Rd.assign rfl) rfl rfl ?_
          refine J.done ?_
          refine J.thenN ?_
          obtain rfl : left1 = 1 := by simp at hb2 hb3; omega
          have hs : ptRun every ⟨n, left, block, true, []⟩ (data.take (k + 1)) = ⟨n1, 0, [], false, out1⟩ := by
            rw [ptRun_take hc, hS]
            simp only [ptStep]
            rw [if_pos (by omega), if_neg (by omega)]
            simp only [htt]
          refine J.again (k, v, bv1, vs, Lp) (k + 1, v, .slice none 0 0, vs, Lp) ?_ ?_ (fun w hw => ⟨⟨?_, ?_⟩, ?_⟩)
          · show data.length - (k + 1) < data.length - k; omega
          · simp only [hs]
            exact .cons rfl (.cons rfl (.cons rfl (.cons rfl (.cons rfl .nil))))
          · simp only; omega
          · simp only [hs]
            exact hq2
          · skip
            simp only [hs, List.length_nil, Part.bytesV_nil]
            have hw2 := St.ownNil 5 1 hw
            simp only [Nat.sub_self] at hw2
            exact St.sub hw2
      · skip
        refine J.skip ?_
        refine J.thenN ?_
        refine J.exit ?_
        refine J.thenE ?_
        refine J.blockE ?_
        refine J.thenN ?_
        refine J.region ?_
        refine J.rd (Rd.move rfl) rfl rfl ?_
        refine J.rd (Rd.bin' rfl rfl rfl (fun _ => rfl)) rfl rfl ?_
        first | refine J.val (wI64 ⟨by omega, by omega⟩) ?_ | skip
        refine J.rd (Rd.assign rfl) rfl rfl ?_
        refine J.done ?_
        refine J.thenN ?_
        have hs : ptRun every ⟨n, left, block, true, []⟩ (data.take (k + 1)) = ⟨n1, left1 - 1, block1 ++ [c], ok1, out1⟩ := by
          rw [ptRun_take hc, hS]
          simp only [ptStep]
          rw [if_pos (by simp at hb2; omega), if_pos (by simp at hb2 hb3; omega)]
        refine J.again (k, v, bv1, vs, Lp) (k + 1, v, .slice b33 (block1.length + 1) c33, vs, Lp) ?_ ?_ (fun w hw => ⟨⟨?_, ?_⟩, ?_⟩)
        · show data.length - (k + 1) < data.length - k; omega
        · simp only [hs]
          exact .cons rfl (.cons rfl (.cons rfl (.cons rfl (.cons rfl .nil))))
        · simp only; omega
        · simp only [hs]
          exact hq2
        · skip
          have e1 : (block1 ++ [c]).length = block1.length + 1 := by simp
          have e2 : bytesV (block1 ++ [c]) = bytesV block1 ++ [.int .u8 c.toNat] := by simp [bytesV]
          simp only [hs, e1, e2]
          exact hw
    · skip
      refine J.skip ?_
      refine J.thenN ?_
      refine J.seq ?_
      refine J.seq ?_
      refine J.draw mixed (by kernel_rfl) (fun w n h => St.drawn h n) ?_
      refine JQ.rd (Rd.move rfl) rfl rfl ?_
      refine JQ.rd (Rd.nilCheck rfl) rfl rfl ?_
      refine JQ.rd (Rd.fld fd61_0 rfl) rfl rfl ?_
      refine JQ.rd (Rd.ld Tryd.underlying3 rfl rfl rfl) rfl rfl ?_
      refine JQ.rd (Rd.bin' rfl rfl rfl (fun _ => rfl)) rfl rfl ?_
      refine JQ.rd (Rd.move rfl) rfl rfl ?_
      refine JQ.bcase (fun hb5 => ?_) (fun hb5 => ?_)
      · skip
        refine JQ.rd (Rd.move rfl) rfl rfl ?_
        refine JQ.rd (Rd.nilCheck rfl) rfl rfl ?_
        refine JQ.rd (Rd.fld fd61_1 rfl) rfl rfl ?_
        refine JQ.rd (Rd.ld Tryd.underlying3 rfl rfl rfl) rfl rfl ?_
        refine JQ.rd (Rd.move rfl) rfl rfl ?_
        refine JQ.rd (Rd.nilCheck rfl) rfl rfl ?_
        refine JQ.rd (Rd.fld fd61_0 rfl) rfl rfl ?_
        refine JQ.rd (Rd.ld Tryd.underlying3 rfl rfl rfl) rfl rfl ?_
        refine JQ.rd (Rd.bin' rfl rfl rfl (fun _ => rfl)) rfl rfl ?_
        refine JQ.rd (Rd.pickT rfl rfl) rfl rfl ?_
        refine JQ.done ?_
        refine J.thenN ?_
        refine J.cond rfl (fun hb6 => ?_) (fun hb6 => ?_)
        · skip
          refine J.seq ?_
          refine J.region ?_
          refine J.rd (Rd.move rfl) rfl rfl ?_
          refine J.rd (Rd.nilCheck rfl) rfl rfl ?_
          refine J.rd (Rd.fld fd61_1 rfl) rfl rfl ?_
          refine J.sto ti3 rfl rfl rfl rfl ?_
          refine J.done ?_
          refine J.thenN ?_
          refine J.seq ?_
          refine J.region ?_
          refine J.rd (Rd.move rfl) rfl rfl ?_
          refine J.rd (Rd.move rfl) rfl rfl ?_
          refine J.rd (Rd.move rfl) rfl rfl ?_
          refine J.idxR ti5 Tryd.underlying27 rfl rfl (fun w hw => hr w (hoff w hw)) (bytesV_get hc) rfl rfl (fun ad88 had88 => ?_)
          refine J.rd (Rd.load rfl Tryd.underlying5 rfl (had88)) rfl rfl ?_
          refine J.rd (Rd.convI rfl Tryd.underlying5 Tryd.underlying3) rfl rfl ?_
          first | refine J.val (wI64 ⟨by omega, by omega⟩) ?_ | skip
          refine J.rd (Rd.bin' rfl rfl rfl (fun _ => rfl)) rfl rfl ?_
          first | refine J.val (wI64 ⟨by omega, by omega⟩) ?_ | skip
          refine J.val (show _ = Value.int .i64 ((c.toNat * 16 : Nat) : Int) from congrArg (Value.int .i64) (by omega)) ?_
          refine J.rd (Rd.nilCheck rfl) rfl rfl ?_
          refine J.rd (Rd.fld fd61_2 rfl) rfl rfl ?_
          refine J.sto ti3 rfl rfl rfl rfl ?_
          refine J.done ?_
          refine J.thenN ?_
          refine J.exit ?_
          refine J.thenE ?_
          refine J.blockE ?_
          refine J.thenN ?_
          refine J.region ?_
          refine J.rd (Rd.move rfl) rfl rfl ?_
          refine J.rd (Rd.bin' rfl rfl rfl (fun _ => rfl)) rfl rfl ?_
          first | refine J.val (wI64 ⟨by omega, by omega⟩) ?_ | skip
          refine J.rd (Rd.assign rfl) rfl rfl ?_
          refine J.done ?_
          refine J.thenN ?_
          have hs : ptRun every ⟨n, left, block, true, []⟩ (data.take (k + 1)) = ⟨0, c.toNat * 16, block1, ok1, out1⟩ := by
            rw [ptRun_take hc, hS]
            simp only [ptStep]
            rw [if_neg (by simp at hb2; omega), if_pos ⟨by simp at hb5; omega, by simp at hb6; omega⟩]
          refine J.again (k, v, bv1, vs, Lp) (k + 1, v, bv1, vs, Lp) ?_ ?_ (fun w hw => ⟨⟨?_, ?_⟩, ?_⟩)
          · show data.length - (k + 1) < data.length - k; omega
          · simp only [hs]
            exact .cons rfl (.cons rfl (.cons rfl (.cons rfl (.cons rfl .nil))))
          · simp only; omega
          · simp only [hs]
            exact hq2
          · skip
            simp only [hs]
            exact hw
        · skip
          refine J.skip ?_
          refine J.thenN ?_
          refine J.seq ?_
          refine J.region ?_
          refine J.rd (Rd.move rfl) rfl rfl ?_
          refine J.rd (Rd.move rfl) rfl rfl ?_
          refine J.rd (Rd.nilCheck rfl) rfl rfl ?_
          refine J.rd (Rd.fld fd61_1 rfl) rfl rfl ?_
          refine J.rd (Rd.ld Tryd.underlying3 rfl rfl rfl) rfl rfl ?_
          refine J.rd (Rd.bin' rfl rfl rfl (fun _ => rfl)) rfl rfl ?_
          first | refine J.val (wI64 ⟨by omega, by omega⟩) ?_ | skip
          refine J.val (show _ = Value.int .i64 ((n1 + 1 : Nat) : Int) from congrArg (Value.int .i64) (by omega)) ?_
          refine J.rd (Rd.nilCheck rfl) rfl rfl ?_
          refine J.rd (Rd.fld fd61_1 rfl) rfl rfl ?_
          refine J.sto ti3 rfl rfl rfl rfl ?_
          refine J.done ?_
          refine J.thenN ?_
          refine J.seq ?_
          refine J.region ?_
          refine J.rd (Rd.move rfl) rfl rfl ?_
          refine J.rd (Rd.lenOwn rfl rfl Tryd.underlying62) rfl rfl ?_
          refine J.rd (Rd.assign rfl) rfl rfl ?_
          refine J.done ?_
          refine J.thenN ?_
          refine J.seq ?_
          refine J.region ?_
          refine J.rd (Rd.move rfl) rfl rfl ?_
          refine J.rd (Rd.bin' rfl rfl rfl (fun _ => rfl)) rfl rfl ?_
          refine J.rd (Rd.move rfl) rfl rfl ?_
          refine J.bcase (fun hb7 => ?_) (fun hb7 => ?_)
          · skip
            have hpos : 0 < out1.length := by simpa using hb7
            obtain ⟨isT, hT0, hT1, hT2⟩ := hq2.head c hpos
            refine J.rd (Rd.move rfl) rfl rfl ?_
            refine J.rd (Rd.move rfl) rfl rfl ?_
            refine J.rd (Rd.bin' rfl rfl rfl (fun _ => rfl)) rfl rfl ?_
            first | refine J.val (wI64 ⟨by omega, by omega⟩) ?_ | skip
            refine J.val (show _ = Value.int .i64 ((out1.length - 1 : Nat) : Int) from congrArg (Value.int .i64) (by omega)) ?_
            refine J.idxA (v := v) (i := out1.length - 1) ti67 Tryd.underlying62 rfl rfl (by omega) rfl rfl (fun gb110 o110 had110 => ?_)
            refine J.rd (Rd.fldAt (n := o110 + 0) fd67_0 rfl rfl) rfl rfl ?_
            refine J.rd (Rd.load rfl Tryd.underlying4 rfl (fun w hC => cell_own (v := v) (k := (out1.length - 1) * 3) (q := 0) hC had110 rfl hT0)) rfl rfl ?_
            refine J.rd (Rd.un rfl (fun _ => rfl)) rfl rfl ?_
            refine J.rd (Rd.pickT rfl rfl) rfl rfl ?_
            refine J.done ?_
            refine J.thenN ?_
            refine J.cond rfl (fun hb8 => ?_) (fun hb8 => ?_)
            · skip
              obtain ⟨l, ps', us, sv, L', rfl, rfl, rfl, hul, hP'⟩ := hT2 (by simpa using hb8)
              simp only [List.length_cons] at o4
              simp only [List.cons_append, List.length_cons]
              have h2 : (us ++ [Value.bool false, .string .empty, sv])[ps'.length * 3 + 2]? = some sv := by rw [← hul]; simp
              have hll : l.length ≤ 100000 := by simp only [soundOf, List.length_append] at o5; omega
              refine J.elemR (v := dv) (fun w hw => hr w (St.offL hw.drop0.drop0.drop0.drop0)) (bytesV_get hc) (fun ad30 hadp30 hv30 hcell30 => ?_)
              refine J.elem (v := v) (sz := 3) (i := ps'.length) (Nat.lt_succ_self _) (fun gb o hadp hv0 => ?_)
              refine J.mixN [(true, 0), (true, 1), (true, 2), (true, 3), (true, 4), (true, 5), (true, 6), (true, 7), (true, 8), (true, 9), (true, 10), (true, 11), (true, 12), (false, 13), (false, 14), (true, 15), (true, 16), (false, 17)] mixed (by kernel_rfl) (fun w n h => St.drawn h n) ?_
              refine JN.rp rfl (Rd.move rfl) rfl rfl ?_
              refine JN.rp rfl (Rd.move rfl) rfl rfl ?_
              refine JN.rp rfl (Rd.bin' rfl rfl rfl (fun _ => rfl)) rfl rfl ?_
              first | refine JN.val (wI64 ⟨by omega, by omega⟩) ?_ | skip
              refine JN.val (show _ = Value.int .i64 ((ps'.length : Nat) : Int) from congrArg (Value.int .i64) (by omega)) ?_
              refine JN.rp rfl (Rd.move rfl) rfl rfl ?_
              refine JN.rp rfl (Rd.move rfl) rfl rfl ?_
              refine JN.rp rfl (Rd.bin' rfl rfl rfl (fun _ => rfl)) rfl rfl ?_
              first | refine JN.val (wI64 ⟨by omega, by omega⟩) ?_ | skip
              refine JN.val (show _ = Value.int .i64 ((ps'.length : Nat) : Int) from congrArg (Value.int .i64) (by omega)) ?_
              refine JN.rp rfl (Rd.idxP ti67 Tryd.underlying62 hv0 rfl rfl (Nat.lt_succ_self _) hadp) rfl rfl ?_
              refine JN.rp rfl (Rd.fldAt (n := o + 2) fd67_2 rfl rfl) rfl rfl ?_
              refine JN.rd rfl (Rd.load rfl Tryd.underlying27 rfl (fun w hC => cell_own (v := v) (k := ps'.length * 3) (q := 2) hC hadp rfl h2)) rfl rfl ?_
              refine JN.rp rfl (Rd.move rfl) rfl rfl ?_
              refine JN.rp rfl (Rd.move rfl) rfl rfl ?_
              refine JN.rp rfl (Rd.idxP ti5 Tryd.underlying27 hv30 rfl rfl (hkl) hadp30) rfl rfl ?_
              refine JN.rd rfl (Rd.load rfl Tryd.underlying5 rfl (hcell30)) rfl rfl ?_
              refine JN.eff rfl (fun S_ hS_ => ?_)
              refine J.lit1 ti5 Tryd.underlying27 rfl rfl rfl rfl rfl (fun b128 => ?_)
              refine JN.next hS_ (.drop rfl (.keep (fun _ hw => St.sub hw) (.nil))) ?_
              refine JN.eff rfl (fun S_ hS_ => ?_)
              refine J.app1 ti5 Tryd.underlying27 rfl rfl rfl (by omega) (by omega) rfl rfl rfl (fun b129 c129 => ?_)
              refine JN.next hS_ (.drop rfl (.nil)) ?_
              refine JN.rp rfl (Rd.idxP ti67 Tryd.underlying62 hv0 rfl rfl (Nat.lt_succ_self _) hadp) rfl rfl ?_
              refine JN.rp rfl (Rd.fldAt (n := o + 2) fd67_2 rfl rfl) rfl rfl ?_
              refine JN.eff rfl (fun S_ hS_ => ?_)
              refine J.stoO (v := v) (k := ps'.length * 3) hadp (q := 2) rfl ti27 rfl rfl (by simp; omega) rfl rfl ?_
              refine JN.next hS_ (.nil) ?_
              refine JN.done ?_
              refine J.blockN ?_
              refine J.thenN ?_
              refine J.region ?_
              refine J.rd (Rd.move rfl) rfl rfl ?_
              refine J.rd (Rd.bin' rfl rfl rfl (fun _ => rfl)) rfl rfl ?_
              first | refine J.val (wI64 ⟨by omega, by omega⟩) ?_ | skip
              refine J.rd (Rd.assign rfl) rfl rfl ?_
              refine J.done ?_
              refine J.thenN ?_
              have hs : ptRun every ⟨n, left, block, true, []⟩ (data.take (k + 1)) = ⟨n1 + 1, left1, block1, ok1, .snd (l ++ [c]) :: ps'⟩ := by
                rw [ptRun_take hc, hS]
                simp only [ptStep]
                rw [if_neg (by simp at hb2; omega), if_neg (by simp at hb6; omega)]
                rfl
              have e0 : (us ++ [Value.bool false, .string .empty, sv]).set (ps'.length * 3 + 2) (.slice b129 (l.length + 1) c129) = us ++ [Value.bool false, .string .empty, .slice b129 (l.length + 1) c129] := by rw [← hul]; simp
              refine J.again (k, v, bv1, us ++ [Value.bool false, .string .empty, sv], own 5 1 sv l.length (bytesV l) :: L') (k + 1, v, bv1, us ++ [Value.bool false, .string .empty, .slice b129 (l.length + 1) c129], own 5 1 (.slice b129 (l.length + 1) c129) (l ++ [c]).length (bytesV (l ++ [c])) :: L') ?_ ?_ (fun w hw => ⟨⟨?_, ?_⟩, ?_⟩)
              · show data.length - (k + 1) < data.length - k; omega
              · simp only [hs]
                exact .cons rfl (.cons rfl (.cons rfl (.cons rfl (.cons rfl .nil))))
              · simp only; omega
              · simp only [hs]
                exact PcsQ.snd (l ++ [c]) _ hP'
              · have e1 : (l ++ [c]).length = l.length + 1 := by simp
                have e2 : bytesV (l ++ [c]) = bytesV l ++ [.int .u8 c.toNat] := by simp [bytesV]
                rw [e0] at hw
                simp only [hs, e1, e2, List.cons_append, List.length_cons]
                exact hw
            · skip
              have hput := hT1 (by simpa using hb8)
              refine J.region ?_
              refine J.rd (Rd.move rfl) rfl rfl ?_
              refine J.rd (Rd.move rfl) rfl rfl ?_
              refine J.rd (Rd.move rfl) rfl rfl ?_
              refine J.idxR ti5 Tryd.underlying27 rfl rfl (fun w hw => hr w (hoff w hw)) (bytesV_get hc) rfl rfl (fun ad135 had135 => ?_)
              refine J.rd (Rd.load rfl Tryd.underlying5 rfl (had135)) rfl rfl ?_
              refine J.lit1 ti5 Tryd.underlying27 rfl rfl rfl rfl rfl (fun b137 => ?_)
              refine J.ownRow (n := 1) (b := b137) rfl ?_
              refine J.rd (Rd.build (ps := [(2, .tmp 137)]) bd67 rfl rfl) rfl rfl ?_
              refine J.val (show _ = Value.agg #[.bool false, .string .empty, .slice (some ⟨b137, 0, none⟩) 1 1] from rfl) ?_
              refine J.litS ti67 Tryd.underlying62 rfl rfl rfl (by decide) rfl rfl rfl (fun b139 => ?_)
              refine J.appS ti67 Tryd.underlying62 rfl rfl rfl (by simp [Value.oneCell']) (by omega) (by omega) rfl (by decide) rfl rfl (fun b140 c140 => ?_)
              refine J.rd (Rd.assign rfl) rfl rfl ?_
              refine J.done ?_
              refine J.blockN ?_
              refine J.thenN ?_
              refine J.region ?_
              refine J.rd (Rd.move rfl) rfl rfl ?_
              refine J.rd (Rd.bin' rfl rfl rfl (fun _ => rfl)) rfl rfl ?_
              first | refine J.val (wI64 ⟨by omega, by omega⟩) ?_ | skip
              refine J.rd (Rd.assign rfl) rfl rfl ?_
              refine J.done ?_
              refine J.thenN ?_
              have hs : ptRun every ⟨n, left, block, true, []⟩ (data.take (k + 1)) = ⟨n1 + 1, left1, block1, ok1, .snd [c] :: out1⟩ := by
                rw [ptRun_take hc, hS]
                simp only [ptStep]
                rw [if_neg (by simp at hb2; omega), if_neg (by simp at hb6; omega), hput]
              refine J.again (k, v, bv1, vs, Lp) (k + 1, .slice b140 (out1.length + 1) c140, bv1, vs ++ [.bool false, .string .empty, .slice (some ⟨b137, 0, none⟩) 1 1], own 5 1 (.slice (some ⟨b137, 0, none⟩) 1 1) [c].length (bytesV [c]) :: Lp) ?_ ?_ (fun w hw => ⟨⟨?_, ?_⟩, ?_⟩)
              · show data.length - (k + 1) < data.length - k; omega
              · simp only [hs]
                exact .cons rfl (.cons rfl (.cons rfl (.cons rfl (.cons rfl .nil))))
              · simp only; omega
              · simp only [hs]
                exact PcsQ.snd [c] _ hq2
              · skip
                simp only [hs, List.cons_append, List.length_cons, List.length_nil, Nat.zero_add, bytesV_one]
                exact St.sub hw
          · skip
            have hput : putS c out1 = .snd [c] :: out1 := by
              have h0 : out1.length = 0 := by simpa using hb7
              rw [List.eq_nil_of_length_eq_zero h0]; rfl
            refine J.pass rfl rfl ?_
            refine J.pass rfl rfl ?_
            refine J.pass rfl rfl ?_
            refine J.pass rfl rfl ?_
            refine J.pass rfl rfl ?_
            refine J.pass rfl rfl ?_
            refine J.pass rfl rfl ?_
            refine J.rd (Rd.pickF rfl rfl) rfl rfl ?_
            refine J.done ?_
            refine J.thenN ?_
            refine J.condF rfl ?_
            refine J.region ?_
            refine J.rd (Rd.move rfl) rfl rfl ?_
            refine J.rd (Rd.move rfl) rfl rfl ?_
            refine J.rd (Rd.move rfl) rfl rfl ?_
            refine J.idxR ti5 Tryd.underlying27 rfl rfl (fun w hw => hr w (hoff w hw)) (bytesV_get hc) rfl rfl (fun ad135 had135 => ?_)
            refine J.rd (Rd.load rfl Tryd.underlying5 rfl (had135)) rfl rfl ?_
            refine J.lit1 ti5 Tryd.underlying27 rfl rfl rfl rfl rfl (fun b137 => ?_)
            refine J.ownRow (n := 1) (b := b137) rfl ?_
            refine J.rd (Rd.build (ps := [(2, .tmp 137)]) bd67 rfl rfl) rfl rfl ?_
            refine J.val (show _ = Value.agg #[.bool false, .string .empty, .slice (some ⟨b137, 0, none⟩) 1 1] from rfl) ?_
            refine J.litS ti67 Tryd.underlying62 rfl rfl rfl (by decide) rfl rfl rfl (fun b139 => ?_)
            refine J.appS ti67 Tryd.underlying62 rfl rfl rfl (by simp [Value.oneCell']) (by omega) (by omega) rfl (by decide) rfl rfl (fun b140 c140 => ?_)
            refine J.rd (Rd.assign rfl) rfl rfl ?_
            refine J.done ?_
            refine J.blockN ?_
            refine J.thenN ?_
            refine J.region ?_
            refine J.rd (Rd.move rfl) rfl rfl ?_
            refine J.rd (Rd.bin' rfl rfl rfl (fun _ => rfl)) rfl rfl ?_
            first | refine J.val (wI64 ⟨by omega, by omega⟩) ?_ | skip
            refine J.rd (Rd.assign rfl) rfl rfl ?_
            refine J.done ?_
            refine J.thenN ?_
            have hs : ptRun every ⟨n, left, block, true, []⟩ (data.take (k + 1)) = ⟨n1 + 1, left1, block1, ok1, .snd [c] :: out1⟩ := by
              rw [ptRun_take hc, hS]
              simp only [ptStep]
              rw [if_neg (by simp at hb2; omega), if_neg (by simp at hb6; omega), hput]
            refine J.again (k, v, bv1, vs, Lp) (k + 1, .slice b140 (out1.length + 1) c140, bv1, vs ++ [.bool false, .string .empty, .slice (some ⟨b137, 0, none⟩) 1 1], own 5 1 (.slice (some ⟨b137, 0, none⟩) 1 1) [c].length (bytesV [c]) :: Lp) ?_ ?_ (fun w hw => ⟨⟨?_, ?_⟩, ?_⟩)
            · show data.length - (k + 1) < data.length - k; omega
            · simp only [hs]
              exact .cons rfl (.cons rfl (.cons rfl (.cons rfl (.cons rfl .nil))))
            · simp only; omega
            · simp only [hs]
              exact PcsQ.snd [c] _ hq2
            · skip
              simp only [hs, List.cons_append, List.length_cons, List.length_nil, Nat.zero_add, bytesV_one]
              exact St.sub hw
      · skip
        refine JQ.pass rfl rfl ?_
        refine JQ.pass rfl rfl ?_
        refine JQ.pass rfl rfl ?_
        refine JQ.pass rfl rfl ?_
        refine JQ.pass rfl rfl ?_
        refine JQ.pass rfl rfl ?_
        refine JQ.pass rfl rfl ?_
        refine JQ.pass rfl rfl ?_
        refine JQ.pass rfl rfl ?_
        refine JQ.rd (Rd.pickF rfl rfl) rfl rfl ?_
        refine JQ.done ?_
        refine J.thenN ?_
        refine J.condF rfl ?_
        refine J.skip ?_
        refine J.thenN ?_
        refine J.seq ?_
        refine J.region ?_
        refine J.rd (Rd.move rfl) rfl rfl ?_
        refine J.rd (Rd.move rfl) rfl rfl ?_
        refine J.rd (Rd.nilCheck rfl) rfl rfl ?_
        refine J.rd (Rd.fld fd61_1 rfl) rfl rfl ?_
        refine J.rd (Rd.ld Tryd.underlying3 rfl rfl rfl) rfl rfl ?_
        refine J.rd (Rd.bin' rfl rfl rfl (fun _ => rfl)) rfl rfl ?_
        first | refine J.val (wI64 ⟨by omega, by omega⟩) ?_ | skip
        refine J.val (show _ = Value.int .i64 ((n1 + 1 : Nat) : Int) from congrArg (Value.int .i64) (by omega)) ?_
        refine J.rd (Rd.nilCheck rfl) rfl rfl ?_
        refine J.rd (Rd.fld fd61_1 rfl) rfl rfl ?_
        refine J.sto ti3 rfl rfl rfl rfl ?_
        refine J.done ?_
        refine J.thenN ?_
        refine J.seq ?_
        refine J.region ?_
        refine J.rd (Rd.move rfl) rfl rfl ?_
        refine J.rd (Rd.lenOwn rfl rfl Tryd.underlying62) rfl rfl ?_
        refine J.rd (Rd.assign rfl) rfl rfl ?_
        refine J.done ?_
        refine J.thenN ?_
        refine J.seq ?_
        refine J.region ?_
        refine J.rd (Rd.move rfl) rfl rfl ?_
        refine J.rd (Rd.bin' rfl rfl rfl (fun _ => rfl)) rfl rfl ?_
        refine J.rd (Rd.move rfl) rfl rfl ?_
        refine J.bcase (fun hb9 => ?_) (fun hb9 => ?_)
        · skip
          have hpos : 0 < out1.length := by simpa using hb9
          obtain ⟨isT, hT0, hT1, hT2⟩ := hq2.head c hpos
          refine J.rd (Rd.move rfl) rfl rfl ?_
          refine J.rd (Rd.move rfl) rfl rfl ?_
          refine J.rd (Rd.bin' rfl rfl rfl (fun _ => rfl)) rfl rfl ?_
          first | refine J.val (wI64 ⟨by omega, by omega⟩) ?_ | skip
          refine J.val (show _ = Value.int .i64 ((out1.length - 1 : Nat) : Int) from congrArg (Value.int .i64) (by omega)) ?_
          refine J.idxA (v := v) (i := out1.length - 1) ti67 Tryd.underlying62 rfl rfl (by omega) rfl rfl (fun gb110 o110 had110 => ?_)
          refine J.rd (Rd.fldAt (n := o110 + 0) fd67_0 rfl rfl) rfl rfl ?_
          refine J.rd (Rd.load rfl Tryd.underlying4 rfl (fun w hC => cell_own (v := v) (k := (out1.length - 1) * 3) (q := 0) hC had110 rfl hT0)) rfl rfl ?_
          refine J.rd (Rd.un rfl (fun _ => rfl)) rfl rfl ?_
          refine J.rd (Rd.pickT rfl rfl) rfl rfl ?_
          refine J.done ?_
          refine J.thenN ?_
          refine J.cond rfl (fun hb10 => ?_) (fun hb10 => ?_)
          · skip
            obtain ⟨l, ps', us, sv, L', rfl, rfl, rfl, hul, hP'⟩ := hT2 (by simpa using hb10)
            simp only [List.length_cons] at o4
            simp only [List.cons_append, List.length_cons]
            have h2 : (us ++ [Value.bool false, .string .empty, sv])[ps'.length * 3 + 2]? = some sv := by rw [← hul]; simp
            have hll : l.length ≤ 100000 := by simp only [soundOf, List.length_append] at o5; omega
            refine J.elemR (v := dv) (fun w hw => hr w (St.offL hw.drop0.drop0.drop0.drop0)) (bytesV_get hc) (fun ad30 hadp30 hv30 hcell30 => ?_)
            refine J.elem (v := v) (sz := 3) (i := ps'.length) (Nat.lt_succ_self _) (fun gb o hadp hv0 => ?_)
            refine J.mixN [(true, 0), (true, 1), (true, 2), (true, 3), (true, 4), (true, 5), (true, 6), (true, 7), (true, 8), (true, 9), (true, 10), (true, 11), (true, 12), (false, 13), (false, 14), (true, 15), (true, 16), (false, 17)] mixed (by kernel_rfl) (fun w n h => St.drawn h n) ?_
            refine JN.rp rfl (Rd.move rfl) rfl rfl ?_
            refine JN.rp rfl (Rd.move rfl) rfl rfl ?_
            refine JN.rp rfl (Rd.bin' rfl rfl rfl (fun _ => rfl)) rfl rfl ?_
            first | refine JN.val (wI64 ⟨by omega, by omega⟩) ?_ | skip
            refine JN.val (show _ = Value.int .i64 ((ps'.length : Nat) : Int) from congrArg (Value.int .i64) (by omega)) ?_
            refine JN.rp rfl (Rd.move rfl) rfl rfl ?_
            refine JN.rp rfl (Rd.move rfl) rfl rfl ?_
            refine JN.rp rfl (Rd.bin' rfl rfl rfl (fun _ => rfl)) rfl rfl ?_
            first | refine JN.val (wI64 ⟨by omega, by omega⟩) ?_ | skip
            refine JN.val (show _ = Value.int .i64 ((ps'.length : Nat) : Int) from congrArg (Value.int .i64) (by omega)) ?_
            refine JN.rp rfl (Rd.idxP ti67 Tryd.underlying62 hv0 rfl rfl (Nat.lt_succ_self _) hadp) rfl rfl ?_
            refine JN.rp rfl (Rd.fldAt (n := o + 2) fd67_2 rfl rfl) rfl rfl ?_
            refine JN.rd rfl (Rd.load rfl Tryd.underlying27 rfl (fun w hC => cell_own (v := v) (k := ps'.length * 3) (q := 2) hC hadp rfl h2)) rfl rfl ?_
            refine JN.rp rfl (Rd.move rfl) rfl rfl ?_
            refine JN.rp rfl (Rd.move rfl) rfl rfl ?_
            refine JN.rp rfl (Rd.idxP ti5 Tryd.underlying27 hv30 rfl rfl (hkl) hadp30) rfl rfl ?_
            refine JN.rd rfl (Rd.load rfl Tryd.underlying5 rfl (hcell30)) rfl rfl ?_
            refine JN.eff rfl (fun S_ hS_ => ?_)
            refine J.lit1 ti5 Tryd.underlying27 rfl rfl rfl rfl rfl (fun b128 => ?_)
            refine JN.next hS_ (.drop rfl (.keep (fun _ hw => St.sub hw) (.nil))) ?_
            refine JN.eff rfl (fun S_ hS_ => ?_)
            refine J.app1 ti5 Tryd.underlying27 rfl rfl rfl (by omega) (by omega) rfl rfl rfl (fun b129 c129 => ?_)
            refine JN.next hS_ (.drop rfl (.nil)) ?_
            refine JN.rp rfl (Rd.idxP ti67 Tryd.underlying62 hv0 rfl rfl (Nat.lt_succ_self _) hadp) rfl rfl ?_
            refine JN.rp rfl (Rd.fldAt (n := o + 2) fd67_2 rfl rfl) rfl rfl ?_
            refine JN.eff rfl (fun S_ hS_ => ?_)
            refine J.stoO (v := v) (k := ps'.length * 3) hadp (q := 2) rfl ti27 rfl rfl (by simp; omega) rfl rfl ?_
            refine JN.next hS_ (.nil) ?_
            refine JN.done ?_
            refine J.blockN ?_
            refine J.thenN ?_
            refine J.region ?_
            refine J.rd (Rd.move rfl) rfl rfl ?_
            refine J.rd (Rd.bin' rfl rfl rfl (fun _ => rfl)) rfl rfl ?_
            first | refine J.val (wI64 ⟨by omega, by omega⟩) ?_ | skip
            refine J.rd (Rd.assign rfl) rfl rfl ?_
            refine J.done ?_
            refine J.thenN ?_
            have hs : ptRun every ⟨n, left, block, true, []⟩ (data.take (k + 1)) = ⟨n1 + 1, left1, block1, ok1, .snd (l ++ [c]) :: ps'⟩ := by
              rw [ptRun_take hc, hS]
              simp only [ptStep]
              rw [if_neg (by simp at hb2; omega), if_neg (by simp at hb5; omega)]
              rfl
            have e0 : (us ++ [Value.bool false, .string .empty, sv]).set (ps'.length * 3 + 2) (.slice b129 (l.length + 1) c129) = us ++ [Value.bool false, .string .empty, .slice b129 (l.length + 1) c129] := by rw [← hul]; simp
            refine J.again (k, v, bv1, us ++ [Value.bool false, .string .empty, sv], own 5 1 sv l.length (bytesV l) :: L') (k + 1, v, bv1, us ++ [Value.bool false, .string .empty, .slice b129 (l.length + 1) c129], own 5 1 (.slice b129 (l.length + 1) c129) (l ++ [c]).length (bytesV (l ++ [c])) :: L') ?_ ?_ (fun w hw => ⟨⟨?_, ?_⟩, ?_⟩)
            · show data.length - (k + 1) < data.length - k; omega
            · simp only [hs]
              exact .cons rfl (.cons rfl (.cons rfl (.cons rfl (.cons rfl .nil))))
            · simp only; omega
            · simp only [hs]
              exact PcsQ.snd (l ++ [c]) _ hP'
            · have e1 : (l ++ [c]).length = l.length + 1 := by simp
              have e2 : bytesV (l ++ [c]) = bytesV l ++ [.int .u8 c.toNat] := by simp [bytesV]
              rw [e0] at hw
              simp only [hs, e1, e2, List.cons_append, List.length_cons]
              exact hw
          · skip
            have hput := hT1 (by simpa using hb10)
            refine J.region ?_
            refine J.rd (Rd.move rfl) rfl rfl ?_
            refine J.rd (Rd.move rfl) rfl rfl ?_
            refine J.rd (Rd.move rfl) rfl rfl ?_
            refine J.idxR ti5 Tryd.underlying27 rfl rfl (fun w hw => hr w (hoff w hw)) (bytesV_get hc) rfl rfl (fun ad135 had135 => ?_)
            refine J.rd (Rd.load rfl Tryd.underlying5 rfl (had135)) rfl rfl ?_
            refine J.lit1 ti5 Tryd.underlying27 rfl rfl rfl rfl rfl (fun b137 => ?_)
            refine J.ownRow (n := 1) (b := b137) rfl ?_
            refine J.rd (Rd.build (ps := [(2, .tmp 137)]) bd67 rfl rfl) rfl rfl ?_
            refine J.val (show _ = Value.agg #[.bool false, .string .empty, .slice (some ⟨b137, 0, none⟩) 1 1] from rfl) ?_
            refine J.litS ti67 Tryd.underlying62 rfl rfl rfl (by decide) rfl rfl rfl (fun b139 => ?_)
            refine J.appS ti67 Tryd.underlying62 rfl rfl rfl (by simp [Value.oneCell']) (by omega) (by omega) rfl (by decide) rfl rfl (fun b140 c140 => ?_)
            refine J.rd (Rd.assign rfl) rfl rfl ?_
            refine J.done ?_
            refine J.blockN ?_
            refine J.thenN ?_
            refine J.region ?_
            refine J.rd (Rd.move rfl) rfl rfl ?_
            refine J.rd (Rd.bin' rfl rfl rfl (fun _ => rfl)) rfl rfl ?_
            first | refine J.val (wI64 ⟨by omega, by omega⟩) ?_ | skip
            refine J.rd (Rd.assign rfl) rfl rfl ?_
            refine J.done ?_
            refine J.thenN ?_
            have hs : ptRun every ⟨n, left, block, true, []⟩ (data.take (k + 1)) = ⟨n1 + 1, left1, block1, ok1, .snd [c] :: out1⟩ := by
              rw [ptRun_take hc, hS]
              simp only [ptStep]
              rw [if_neg (by simp at hb2; omega), if_neg (by simp at hb5; omega), hput]
            refine J.again (k, v, bv1, vs, Lp) (k + 1, .slice b140 (out1.length + 1) c140, bv1, vs ++ [.bool false, .string .empty, .slice (some ⟨b137, 0, none⟩) 1 1], own 5 1 (.slice (some ⟨b137, 0, none⟩) 1 1) [c].length (bytesV [c]) :: Lp) ?_ ?_ (fun w hw => ⟨⟨?_, ?_⟩, ?_⟩)
            · show data.length - (k + 1) < data.length - k; omega
            · simp only [hs]
              exact .cons rfl (.cons rfl (.cons rfl (.cons rfl (.cons rfl .nil))))
            · simp only; omega
            · simp only [hs]
              exact PcsQ.snd [c] _ hq2
            · skip
              simp only [hs, List.cons_append, List.length_cons, List.length_nil, Nat.zero_add, bytesV_one]
              exact St.sub hw
        · skip
          have hput : putS c out1 = .snd [c] :: out1 := by
            have h0 : out1.length = 0 := by simpa using hb9
            rw [List.eq_nil_of_length_eq_zero h0]; rfl
          refine J.pass rfl rfl ?_
          refine J.pass rfl rfl ?_
          refine J.pass rfl rfl ?_
          refine J.pass rfl rfl ?_
          refine J.pass rfl rfl ?_
          refine J.pass rfl rfl ?_
          refine J.pass rfl rfl ?_
          refine J.rd (Rd.pickF rfl rfl) rfl rfl ?_
          refine J.done ?_
          refine J.thenN ?_
          refine J.condF rfl ?_
          refine J.region ?_
          refine J.rd (Rd.move rfl) rfl rfl ?_
          refine J.rd (Rd.move rfl) rfl rfl ?_
          refine J.rd (Rd.move rfl) rfl rfl ?_
          refine J.idxR ti5 Tryd.underlying27 rfl rfl (fun w hw => hr w (hoff w hw)) (bytesV_get hc) rfl rfl (fun ad135 had135 => ?_)
          refine J.rd (Rd.load rfl Tryd.underlying5 rfl (had135)) rfl rfl ?_
          refine J.lit1 ti5 Tryd.underlying27 rfl rfl rfl rfl rfl (fun b137 => ?_)
          refine J.ownRow (n := 1) (b := b137) rfl ?_
          refine J.rd (Rd.build (ps := [(2, .tmp 137)]) bd67 rfl rfl) rfl rfl ?_
          refine J.val (show _ = Value.agg #[.bool false, .string .empty, .slice (some ⟨b137, 0, none⟩) 1 1] from rfl) ?_
          refine J.litS ti67 Tryd.underlying62 rfl rfl rfl (by decide) rfl rfl rfl (fun b139 => ?_)
          refine J.appS ti67 Tryd.underlying62 rfl rfl rfl (by simp [Value.oneCell']) (by omega) (by omega) rfl (by decide) rfl rfl (fun b140 c140 => ?_)
          refine J.rd (Rd.assign rfl) rfl rfl ?_
          refine J.done ?_
          refine J.blockN ?_
          refine J.thenN ?_
          refine J.region ?_
          refine J.rd (Rd.move rfl) rfl rfl ?_
          refine J.rd (Rd.bin' rfl rfl rfl (fun _ => rfl)) rfl rfl ?_
          first | refine J.val (wI64 ⟨by omega, by omega⟩) ?_ | skip
          refine J.rd (Rd.assign rfl) rfl rfl ?_
          refine J.done ?_
          refine J.thenN ?_
          have hs : ptRun every ⟨n, left, block, true, []⟩ (data.take (k + 1)) = ⟨n1 + 1, left1, block1, ok1, .snd [c] :: out1⟩ := by
            rw [ptRun_take hc, hS]
            simp only [ptStep]
            rw [if_neg (by simp at hb2; omega), if_neg (by simp at hb5; omega), hput]
          refine J.again (k, v, bv1, vs, Lp) (k + 1, .slice b140 (out1.length + 1) c140, bv1, vs ++ [.bool false, .string .empty, .slice (some ⟨b137, 0, none⟩) 1 1], own 5 1 (.slice (some ⟨b137, 0, none⟩) 1 1) [c].length (bytesV [c]) :: Lp) ?_ ?_ (fun w hw => ⟨⟨?_, ?_⟩, ?_⟩)
          · show data.length - (k + 1) < data.length - k; omega
          · simp only [hs]
            exact .cons rfl (.cons rfl (.cons rfl (.cons rfl (.cons rfl .nil))))
          · simp only; omega
          · simp only [hs]
            exact PcsQ.snd [c] _ hq2
          · skip
            simp only [hs, List.cons_append, List.length_cons, List.length_nil, Nat.zero_add, bytesV_one]
            exact St.sub hw
  · skip
    refine J.exit ?_
    refine J.thenE ?_
    refine J.thenE ?_
    refine J.blockE ?_
    refine J.thenN ?_
    refine J.seq ?_
    refine J.region ?_
    refine J.rd (Rd.move rfl) rfl rfl ?_
    refine J.rd (Rd.move rfl) rfl rfl ?_
    refine J.rd (Rd.assign rfl) rfl rfl ?_
    refine J.rd (Rd.assign rfl) rfl rfl ?_
    refine J.done ?_
    refine J.thenN ?_
    refine J.ret ?_
    refine J.leave2 (.inr rfl) rfl rfl rfl (fun w' hC => ?_)
    have hall : data.take k = data := List.take_of_length_le (by simp [length_bytesV] at hb1; omega)
    rw [hall] at hS
    refine ⟨v, bv1, vs, Lp, ?_, ?_, ?_⟩
    · rw [hS]
    · rw [hS]; exact hq2
    · simp only [hS]; exact hC
end Go.Proofs.YtdpfdpmjnifanaaDoor.Rpart
