/- word.Seal. -/
import Derived.Test.YtdpfdpmjnifanaaDoorProg
import Derived.KernelRfl
import Derived.Test.YtdpfdpmjnifanaaDoorBuilder
import Derived.Test.YtdpfdpmjnifanaaDoorSealPure
import Derived.Test.YtdpfdpmjnifanaaDoorIntBits
namespace Go.Proofs.YtdpfdpmjnifanaaDoor.Seal
open Go Go.RowKit Go.Sb
set_option maxRecDepth 100000
set_option linter.unusedVariables false
set_option linter.unusedSimpArgs false
theorem mixed : Tryd.prog.follows .mixedOrders = true := by kernel_rfl
theorem ti5 : TI Tryd.prog 5 1 1 (.int .u8 0) := TI.of (by kernel_rfl)
theorem ti105 : TI Tryd.prog 105 2 32 (.agg #[.pointer none, .slice none 0 0]) := TI.of (by kernel_rfl)
theorem can49 : Callable Tryd.prog 49 := ⟨Tryd.f49, Tryd.func49, by kernel_rfl, by kernel_rfl⟩
theorem can50 : Callable Tryd.prog 50 := ⟨Tryd.f50, Tryd.func50, by kernel_rfl, by kernel_rfl⟩
theorem can51 : Callable Tryd.prog 51 := ⟨Tryd.f51, Tryd.func51, by kernel_rfl, by kernel_rfl⟩

theorem let_at : ∀ n, n < 64 → lets.toArray[n]? = some (letF n) := by decide +kernel
theorem drain_out (b m : Nat) (o : List UInt8) : (drainL b m o).1.length ≤ o.length + 2 ∧ o <+: (drainL b m o).1 := by
  unfold drainL
  split
  · simp
  · split <;> simp
theorem sealRun_snoc (l : List UInt8) (c : UInt8) : sealRun (l ++ [c]) = sealStep (sealRun l) c := by simp [sealRun]
theorem sealRun_ok : ∀ l : List UInt8, ((sealRun l).2.2 = 0 ∨ (sealRun l).2.2 = 2 ∨ (sealRun l).2.2 = 4) ∧ (sealRun l).2.1 < 2 ^ (sealRun l).2.2 ∧ (sealRun l).1.length ≤ 2 * l.length := by
  refine snoc_ind ?_ (fun l c ih => ?_)
  · exact ⟨.inl rfl, by decide, by decide⟩
  · rw [sealRun_snoc]
    generalize sealRun l = s at ih
    obtain ⟨o, b, m⟩ := s
    obtain ⟨h1, h2, h3⟩ := ih
    simp only at h1 h2 h3
    have hc := c.toNat_lt
    simp only [sealStep]
    refine ⟨?_, ?_, ?_⟩
    · rcases h1 with rfl | rfl | rfl <;> simp [drainL]
    · rcases h1 with rfl | rfl | rfl <;> simp [drainL] <;> omega
    · have := (drain_out (b * 256 + c.toNat) (m + 8) o).1
      simp only [List.length_append, List.length_cons, List.length_nil]
      omega
theorem enc3_length : ∀ l : List UInt8, (enc3 l).length = (l.length + 2) / 3 * 4
  | [] => rfl
  | [_] => by simp [enc3]
  | [_, _] => by simp [enc3]
  | _ :: _ :: _ :: r => by have := enc3_length r; simp [enc3]; omega
theorem drain_some {b m : Nat} {o : List UInt8} (h : 6 ≤ m) : (drainL b m o).1 ≠ [] := by
  unfold drainL
  split
  · simp
  · simp [h]

theorem Seal_calls {Z w : World} {Lf : List HP} {v : Value} {l : List UInt8} (hr : ∀ w, St Z w Lf → SlR w v (bytesV l)) (hl : l.length ≤ 1000000) (hst : St Z w Lf) : Calls Tryd.prog 17 #[v] w (Ret fun r w' => r = .string ⟨(enc3 l).toArray⟩ ∧ St Z w' Lf) := by
  refine J.enter (N := 49) (l := [v]) (C := Sto Z Lf) Tryd.func17 rfl Tryd.ntmps17 (by simp) (hst) ?_
  refine J.seq ?_
  refine J.region ?_
  refine J.rd (Rd.assign rfl) rfl rfl ?_
  refine J.done ?_
  refine J.thenN ?_
  refine J.seq ?_
  refine J.region ?_
  refine J.allocT ti105 rfl rfl rfl (fun b3 => ?_)
  refine J.done ?_
  refine J.thenN ?_
  refine J.seq ?_
  refine J.region ?_
  refine J.rd (Rd.assign rfl) rfl rfl ?_
  refine J.rd (Rd.assign rfl) rfl rfl ?_
  refine J.done ?_
  refine J.thenN ?_
  refine J.seq ?_
  refine J.seq ?_
  refine J.region ?_
  refine J.rd (Rd.move rfl) rfl rfl ?_
  refine J.rd (Rd.lenR Tryd.underlying27 rfl (fun w hw => hr w (St.sub hw)) rfl) rfl rfl ?_
  refine J.rd (Rd.move rfl) rfl rfl ?_
  refine J.done ?_
  refine J.thenN ?_
  refine J.block ?_
  refine J.loop (σ := Nat × Value × Value) (fun q => l.length - q.1) (fun q => [(3, .pointer (some ⟨b3, 0, none⟩)), (8, v), (9, .int .i64 ((bytesV l).length : Int)), (10, .int .i64 (q.1 : Int)), (4, .int .i64 ((sealRun (l.take q.1)).2.1 : Nat)), (5, .int .i64 ((sealRun (l.take q.1)).2.2 : Nat))])
    (fun q w => (q.1 ≤ l.length ∧ Builder.Adr b3 q.2.1 ∧ ((sealRun (l.take q.1)).1 = [] → q.2.2 = .slice none 0 0)) ∧ St Z w (pts b3 (.cells [q.2.1, q.2.2].toArray 105 (0, 0)) :: own 5 1 q.2.2 ((sealRun (l.take q.1)).1).length (bytesV ((sealRun (l.take q.1)).1)) :: Lf))
    (0, .pointer none, .slice none 0 0) (.cons rfl (.cons rfl (.cons rfl (.cons rfl (.cons rfl (.cons rfl .nil)))))) (fun w hw => ⟨⟨Nat.zero_le _, .inl rfl, fun _ => rfl⟩, by
      show St Z w (pts b3 (.cells [.pointer none, .slice none 0 0].toArray 105 (0, 0)) :: own 5 1 (.slice none 0 0) 0 [] :: Lf)
      exact St.sub (St.ownNil 5 1 hw)⟩) ?_
  rintro ⟨k, A, vb⟩
  refine J.andC fun hq => ?_
  obtain ⟨hq1, hq2, hq3⟩ := hq
  have hok := sealRun_ok (l.take k)
  generalize hS : sealRun (l.take k) = S at hok hq3
  obtain ⟨o, b, m⟩ := S
  simp only [List.length_take] at hok hq1 hq2 hq3
  obtain ⟨hm, hbm, hol⟩ := hok
  have hb16 : b < 16 := by rcases hm with rfl | rfl | rfl <;> simp at hbm <;> omega
  simp only [hS]
  refine J.seq ?_
  refine J.region ?_
  refine J.rd (Rd.bin' rfl rfl rfl (fun _ => rfl)) rfl rfl ?_
  refine J.done ?_
  refine J.thenN ?_
  refine J.seq ?_
  refine J.cond rfl (fun hb1 => ?_) (fun hb1 => ?_)
  · skip
    refine J.skip ?_
    refine J.thenN ?_
    refine J.seq ?_
    refine J.block ?_
    refine J.seq ?_
    have hlt : k < l.length := by simp [length_bytesV] at hb1; omega
    obtain ⟨c, hc⟩ : ∃ c, l[k]? = some c := ⟨_, List.getElem?_eq_getElem hlt⟩
    have hcl := c.toNat_lt
    refine J.region ?_
    refine J.idxR ti5 Tryd.underlying27 rfl rfl (fun w hw => hr w (St.sub hw)) (bytesV_get hc) rfl rfl (fun ad12 had12 => ?_)
    refine J.rd (Rd.load rfl Tryd.underlying5 rfl (had12)) rfl rfl ?_
    refine J.rd (Rd.assign rfl) rfl rfl ?_
    refine J.done ?_
    refine J.thenN ?_
    refine J.seq ?_
    refine J.region ?_
    refine J.rd (Rd.move rfl) rfl rfl ?_
    refine J.rd (Rd.shl (n := 8) rfl rfl (by first | rfl | omega) (by first | decide | omega | (show _ ≤ 64; omega) | (show _ ≤ 32; omega))) rfl rfl ?_
    first | refine J.val (wI64 ⟨by omega, by omega⟩) ?_ | skip
    refine J.val (show _ = Value.int .i64 ((b * 2 ^ 8 : Nat) : Int) from congrArg (Value.int .i64) (by norm_cast)) ?_
    refine J.rd (Rd.move rfl) rfl rfl ?_
    refine J.rd (Rd.convI rfl Tryd.underlying5 Tryd.underlying3) rfl rfl ?_
    first | refine J.val (wI64 ⟨by omega, by omega⟩) ?_ | skip
    refine J.rd (Rd.bit rfl rfl rfl) rfl rfl ?_
    refine J.val (show _ = Value.int .i64 ((b * 256 + c.toNat : Nat) : Int) from congrArg (Value.int .i64) (i64_or_low b c.toNat 8 hcl (by omega))) ?_
    refine J.rd (Rd.move rfl) rfl rfl ?_
    refine J.rd (Rd.bin' rfl rfl rfl (fun _ => rfl)) rfl rfl ?_
    first | refine J.val (wI64 ⟨by omega, by omega⟩) ?_ | skip
    refine J.val (show _ = Value.int .i64 ((m + 8 : Nat) : Int) from by congr 1) ?_
    refine J.rd (Rd.assign rfl) rfl rfl ?_
    refine J.rd (Rd.assign rfl) rfl rfl ?_
    refine J.done ?_
    refine J.thenN ?_
    refine J.block ?_
    refine J.loop (σ := (List UInt8 × Nat × Nat) × Value × Value) (fun q => q.1.2.2) (fun q => [(3, .pointer (some ⟨b3, 0, none⟩)), (8, v), (9, .int .i64 ((bytesV l).length : Int)), (10, .int .i64 (k : Int)), (4, .int .i64 (q.1.2.1 : Nat)), (5, .int .i64 (q.1.2.2 : Nat))])
      (fun q w => (drainL q.1.2.1 q.1.2.2 q.1.1 = drainL (b * 256 + c.toNat) (m + 8) o ∧ q.1.2.2 ≤ 13 ∧ q.1.2.1 < 2 ^ q.1.2.2 ∧ q.1.1.length ≤ 2000010 ∧ Builder.Adr b3 q.2.1 ∧ (q.1.1 = [] → q.2.2 = .slice none 0 0)) ∧ St Z w (pts b3 (.cells [q.2.1, q.2.2].toArray 105 (0, 0)) :: own 5 1 q.2.2 (q.1.1).length (bytesV (q.1.1)) :: Lf))
      ((o, b * 256 + c.toNat, m + 8), A, vb) (.cons rfl (.cons rfl (.cons rfl (.cons rfl (.cons rfl (.cons rfl .nil)))))) (fun w hw => ⟨⟨rfl, by simp only; omega, ?_, by simp only; omega, hq2, hq3⟩, hw⟩) ?_
    · rcases hm with rfl | rfl | rfl <;> simp at hbm ⊢ <;> omega
    rintro ⟨⟨o2, b2, m2⟩, A2, v2⟩
    refine J.andC fun hp => ?_
    obtain ⟨hp1, hp2, hp3, hp4, hp5, hp6⟩ := hp
    simp only at hp1 hp2 hp3 hp4 hp5 hp6
    have hb2l : b2 < 8192 := Nat.lt_of_lt_of_le hp3 (show 2 ^ m2 ≤ 2 ^ 13 from Nat.pow_le_pow_right (by decide) hp2)
    simp only
    refine J.seq ?_
    refine J.seq ?_
    refine J.region ?_
    refine J.rd (Rd.move rfl) rfl rfl ?_
    refine J.rd (Rd.bin' rfl rfl rfl (fun _ => rfl)) rfl rfl ?_
    refine J.done ?_
    refine J.thenN ?_
    refine J.cond rfl (fun hb2 => ?_) (fun hb2 => ?_)
    · skip
      refine J.skip ?_
      refine J.thenN ?_
      refine J.block ?_
      refine J.seq ?_
      refine J.region ?_
      refine J.rd (Rd.move rfl) rfl rfl ?_
      refine J.rd (Rd.bin' rfl rfl rfl (fun _ => rfl)) rfl rfl ?_
      first | refine J.val (wI64 ⟨by omega, by omega⟩) ?_ | skip
      refine J.val (show _ = Value.int .i64 ((m2 - 6 : Nat) : Int) from by congr 1; simp at hb2; omega) ?_
      refine J.rd (Rd.assign rfl) rfl rfl ?_
      refine J.done ?_
      refine J.thenN ?_
      refine J.seq ?_
      refine J.region ?_
      refine J.rd (Rd.move rfl) rfl rfl ?_
      refine J.rd (Rd.move rfl) rfl rfl ?_
      refine J.rd (Rd.shr (n := m2 - 6) rfl rfl (by first | rfl | omega) (by first | decide | omega | (show _ ≤ 64; omega) | (show _ ≤ 32; omega))) rfl rfl ?_
      refine J.val (show _ = Value.int .i64 ((b2 / 2 ^ (m2 - 6) : Nat) : Int) from congrArg (Value.int .i64) int_shr) ?_
      refine J.rd (Rd.indexStr (i := b2 / 2 ^ (m2 - 6)) rfl rfl Tryd.underlying9 (let_at _ (Nat.div_lt_of_lt_mul (by rw [show 2 ^ (m2 - 6) * 64 = 2 ^ m2 from by rw [show (64 : Nat) = 2 ^ 6 from rfl, ← Nat.pow_add]; congr 1; simp at hb2; omega]; exact hp3)))) rfl rfl ?_
      refine J.call can49 rfl (fun w hC => Builder.WriteByte (by assumption) (by omega) hC) rfl rfl (fun v29 => ?_)
      refine J.exC fun v29' => ?_
      refine J.done ?_
      refine J.thenN ?_
      refine J.region ?_
      refine J.rd (Rd.move rfl) rfl rfl ?_
      refine J.rd (Rd.move rfl) rfl rfl ?_
      refine J.rd (Rd.shl (n := m2 - 6) rfl rfl (by first | rfl | omega) (by first | decide | omega | (show _ ≤ 64; omega) | (show _ ≤ 32; omega))) rfl rfl ?_
      first | refine J.val (wI64 ⟨by omega, by omega⟩) ?_ | skip
      refine J.rd (Rd.bin' rfl rfl rfl (fun _ => rfl)) rfl rfl ?_
      first | refine J.val (wI64 ⟨by omega, by omega⟩) ?_ | skip
      refine J.val (show _ = Value.int .i64 ((2 ^ (m2 - 6) - 1 : Nat) : Int) from congrArg (Value.int .i64) (mask_val (by omega))) ?_
      refine J.rd (Rd.bit rfl rfl rfl) rfl rfl ?_
      refine J.val (show _ = Value.int .i64 ((b2 % 2 ^ (m2 - 6) : Nat) : Int) from congrArg (Value.int .i64) (i64_and_mask b2 (m2 - 6) (by omega) (by omega))) ?_
      refine J.rd (Rd.assign rfl) rfl rfl ?_
      refine J.done ?_
      refine J.blockN ?_
      refine J.thenN ?_
      refine J.again ((o2, b2, m2), A2, v2) ((o2 ++ [letF (b2 / 2 ^ (m2 - 6))], b2 % 2 ^ (m2 - 6), m2 - 6), .pointer (some ⟨b3, 0, none⟩), v29') ?_ ?_ (fun w hw => ?_)
      · simp at hb2 ⊢; omega
      · exact .cons rfl (.cons rfl (.cons rfl (.cons rfl (.cons rfl (.cons rfl .nil)))))
      have h6 : 6 ≤ m2 := by simp at hb2; omega
      refine ⟨⟨by rw [drainL_step h6 hp2]; exact hp1, by simp only; omega, Nat.mod_lt _ (Nat.two_pow_pos _), ?_, .inr rfl, by simp⟩, ?_⟩
      · have h7 := (drain_out (b2 % 2 ^ (m2 - 6)) (m2 - 6) (o2 ++ [letF (b2 / 2 ^ (m2 - 6))])).2.length_le
        rw [drainL_step h6 hp2, hp1] at h7
        have h8 := (drain_out (b * 256 + c.toNat) (m + 8) o).1
        simp only
        omega
      · simpa [bytesV] using hw
    · skip
      refine J.exit ?_
      refine J.thenE ?_
      refine J.thenE ?_
      refine J.blockE ?_
      refine J.blockN ?_
      refine J.thenN ?_
      refine J.region ?_
      refine J.rd (Rd.bin' rfl rfl rfl (fun _ => rfl)) rfl rfl ?_
      first | refine J.val (wI64 ⟨by omega, by omega⟩) ?_ | skip
      refine J.rd (Rd.move rfl) rfl rfl ?_
      refine J.done ?_
      refine J.thenN ?_
      have e : sealRun (l.take (k + 1)) = (o2, b2, m2) := by
        rw [take_succ_of hc, sealRun_snoc, hS, sealStep, ← hp1, drainL_end (by simp at hb2; omega)]
      refine J.again (k, A, vb) (k + 1, A2, v2) ?_ ?_ (fun w hw => ?_)
      · simp; omega
      · simp only [e]
        exact .cons rfl (.cons rfl (.cons rfl (.cons rfl (.cons rfl (.cons rfl .nil)))))
      · simp only [e]
        exact ⟨⟨by omega, hp5, hp6⟩, hw⟩
  · skip
    refine J.exit ?_
    refine J.thenE ?_
    refine J.thenE ?_
    refine J.blockE ?_
    refine J.thenN ?_
    refine J.cut (σ := (List UInt8 × Nat) × Value × Value) (fun _ => [(3, .pointer (some ⟨b3, 0, none⟩))]) (fun q w => (q.1.1 ++ List.replicate q.1.2 61 = enc3 l ∧ q.1.2 ≤ 2 ∧ Builder.Adr b3 q.2.1 ∧ (q.1.1 = [] → q.2.2 = .slice none 0 0)) ∧ St Z w (pts b3 (.cells [q.2.1, q.2.2].toArray 105 (0, 0)) :: own 5 1 q.2.2 (q.1.1).length (bytesV (q.1.1)) :: Lf)) ?_ ?_
    · skip
      refine J.seq ?_
      refine J.region ?_
      refine J.rd (Rd.move rfl) rfl rfl ?_
      refine J.rd (Rd.bin' rfl rfl rfl (fun _ => rfl)) rfl rfl ?_
      refine J.done ?_
      refine J.thenN ?_
      refine J.cond rfl (fun hb3 => ?_) (fun hb3 => ?_)
      · skip
        have hb64 : b * 2 ^ (6 - m) < 64 := by rcases hm with rfl | rfl | rfl <;> simp at hbm ⊢ <;> omega
        refine J.region ?_
        refine J.rd (Rd.move rfl) rfl rfl ?_
        refine J.rd (Rd.move rfl) rfl rfl ?_
        refine J.rd (Rd.bin' rfl rfl rfl (fun _ => rfl)) rfl rfl ?_
        first | refine J.val (wI64 ⟨by omega, by omega⟩) ?_ | skip
        refine J.val (show _ = Value.int .i64 ((6 - m : Nat) : Int) from by congr 1; omega) ?_
        refine J.rd (Rd.shl (n := 6 - m) rfl rfl (by first | rfl | omega) (by first | decide | omega | (show _ ≤ 64; omega) | (show _ ≤ 32; omega))) rfl rfl ?_
        first | refine J.val (wI64 ⟨by omega, by omega⟩) ?_ | skip
        refine J.val (show _ = Value.int .i64 ((b * 2 ^ (6 - m) : Nat) : Int) from congrArg (Value.int .i64) (i64_shl (by omega))) ?_
        refine J.rd (Rd.indexStr (i := b * 2 ^ (6 - m)) rfl rfl Tryd.underlying9 (let_at _ hb64)) rfl rfl ?_
        refine J.call can49 rfl (fun w hC => Builder.WriteByte (by assumption) (by omega) hC) rfl rfl (fun v43 => ?_)
        refine J.exC fun v43' => ?_
        refine J.done ?_
        refine J.thenN ?_
        have hk : k = l.length := by simp [length_bytesV] at hb1; omega
        have hse := seal_is l
        rw [hk, List.take_length] at hS
        rw [hS] at hse
        have hm2 : m = 2 ∨ m = 4 := by simp at hb3; omega
        refine J.met ((o ++ [letF (b * 2 ^ (6 - m))], if m = 2 then 2 else 1), .pointer (some ⟨b3, 0, none⟩), v43') (.cons rfl .nil) (fun w hw => ⟨⟨?_, by simp only; split <;> omega, .inr rfl, by simp⟩, ?_⟩)
        · rw [← hse]
          rcases hm2 with rfl | rfl <;> simp [sealEnd]
        · simpa [bytesV] using hw
      · skip
        refine J.skip ?_
        refine J.thenN ?_
        have hk : k = l.length := by simp [length_bytesV] at hb1; omega
        have hse := seal_is l
        rw [hk, List.take_length] at hS
        rw [hS] at hse
        have hm0 : m = 0 := by simp at hb3; omega
        subst hm0
        exact J.met ((o, 0), A, vb) (.cons rfl .nil) (fun w hw => ⟨⟨by rw [← hse]; simp [sealEnd], by simp, hq2, hq3⟩, hw⟩)
    · intro q0
      refine J.seq ?_
      refine J.block ?_
      refine J.loop (σ := (List UInt8 × Nat) × Value × Value) (fun q => q.1.2) (fun q => [(3, .pointer (some ⟨b3, 0, none⟩))])
        (fun q w => (q.1.1 ++ List.replicate q.1.2 61 = enc3 l ∧ q.1.2 ≤ 2 ∧ Builder.Adr b3 q.2.1 ∧ (q.1.1 = [] → q.2.2 = .slice none 0 0)) ∧ St Z w (pts b3 (.cells [q.2.1, q.2.2].toArray 105 (0, 0)) :: own 5 1 q.2.2 (q.1.1).length (bytesV (q.1.1)) :: Lf))
        q0 (.cons rfl .nil) (fun w hw => hw) ?_
      rintro ⟨⟨o3, j⟩, A3, v3⟩
      refine J.andC fun hp => ?_
      obtain ⟨hp1, hp2, hp3, hp4⟩ := hp
      simp only at hp1 hp2 hp3 hp4
      simp only
      have he4 := enc3_len4 l
      rw [← hp1] at he4
      simp only [List.length_append, List.length_replicate] at he4
      have hll : o3.length ≤ 3000000 := by
        have h2 := congrArg List.length hp1
        rw [enc3_length] at h2
        simp only [List.length_append, List.length_replicate] at h2
        omega
      refine J.seq ?_
      refine J.seq ?_
      refine J.region ?_
      refine J.call can50 rfl (fun w hC => Builder.Len hC) rfl rfl (fun v44 => ?_)
      refine J.andC fun hv44 => ?_
      subst hv44
      refine J.rd (Rd.rem rfl rfl (by first | decide | omega)) rfl rfl ?_
      first | refine J.val (wR (by omega) _) ?_ | skip
      refine J.rd (Rd.bin' rfl rfl rfl (fun _ => rfl)) rfl rfl ?_
      refine J.done ?_
      refine J.thenN ?_
      refine J.cond rfl (fun hb4 => ?_) (fun hb4 => ?_)
      · skip
        refine J.skip ?_
        refine J.thenN ?_
        refine J.block ?_
        refine J.region ?_
        refine J.call can49 rfl (fun w hC => Builder.WriteByte (by assumption) (by omega) hC) rfl rfl (fun v47 => ?_)
        refine J.exC fun v47' => ?_
        refine J.done ?_
        refine J.blockN ?_
        refine J.thenN ?_
        have hj : j ≠ 0 := by rintro rfl; simp at hb4; omega
        refine J.again ((o3, j), A3, v3) ((o3 ++ [61], j - 1), .pointer (some ⟨b3, 0, none⟩), v47') ?_ (.cons rfl .nil) (fun w hw => ⟨⟨?_, by simp only; omega, .inr rfl, by simp⟩, ?_⟩)
        · simp; omega
        · rw [← hp1, List.append_assoc]
          congr 1
          obtain ⟨i, rfl⟩ : ∃ i, j = i + 1 := ⟨j - 1, by omega⟩
          simp [List.replicate_succ]
        · simpa [bytesV] using hw
      · skip
        refine J.exit ?_
        refine J.thenE ?_
        refine J.thenE ?_
        refine J.blockE ?_
        refine J.thenN ?_
        refine J.seq ?_
        refine J.region ?_
        refine J.call can51 rfl (fun w hC => Builder.String (by omega) hp4 hC) rfl rfl (fun v48 => ?_)
        refine J.andC fun hv48 => ?_
        subst hv48
        refine J.rd (Rd.assign rfl) rfl rfl ?_
        refine J.done ?_
        refine J.thenN ?_
        refine J.ret ?_
        refine J.leave1 (.inr rfl) rfl rfl (fun w' hC => ?_)
        have hj : j = 0 := by simp at hb4; omega
        subst hj
        simp at hp1
        refine ⟨by rw [hp1], hC⟩
end Go.Proofs.YtdpfdpmjnifanaaDoor.Seal
