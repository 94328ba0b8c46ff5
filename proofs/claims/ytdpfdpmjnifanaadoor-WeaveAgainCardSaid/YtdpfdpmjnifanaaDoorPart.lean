/- weave.title, sound, Part, Bytes, First. -/
import Derived.Test.YtdpfdpmjnifanaaDoorProg
import Derived.KernelRfl
import Derived.Test.YtdpfdpmjnifanaaDoorOpen
import Derived.Test.YtdpfdpmjnifanaaDoorBlock
import Derived.Test.YtdpfdpmjnifanaaDoorPartPure
import Derived.Test.YtdpfdpmjnifanaaDoorElems
namespace Go.Proofs.YtdpfdpmjnifanaaDoor.Part
open Go Go.RowKit Go.Sb
set_option maxRecDepth 100000
set_option linter.unusedVariables false
set_option linter.unusedSimpArgs false
theorem mixed : Tryd.prog.follows .mixedOrders = true := by kernel_rfl
theorem ti3 : TI Tryd.prog 3 1 8 (.int .i64 0) := TI.of (by kernel_rfl)
theorem ti5 : TI Tryd.prog 5 1 1 (.int .u8 0) := TI.of (by kernel_rfl)
theorem ti27 : TI Tryd.prog 27 1 24 (.slice none 0 0) := TI.of (by kernel_rfl)
theorem ti53 : TI Tryd.prog 53 1 16 (.nilIface) := TI.of (by kernel_rfl)
theorem ti120 : TI Tryd.prog 120 1 24 (.slice none 0 0) := TI.of (by kernel_rfl)
theorem fd116_0 : FD Tryd.prog 116 0 0 := FD.of Tryd.underlying116 (by kernel_rfl)
theorem fd116_1 : FD Tryd.prog 116 1 1 := FD.of Tryd.underlying116 (by kernel_rfl)
theorem fd116_2 : FD Tryd.prog 116 2 2 := FD.of Tryd.underlying116 (by kernel_rfl)
theorem fd116_3 : FD Tryd.prog 116 3 3 := FD.of Tryd.underlying116 (by kernel_rfl)
theorem can26 : Callable Tryd.prog 26 := ⟨Tryd.f26, Tryd.func26, by kernel_rfl, by kernel_rfl⟩
theorem can47 : Callable Tryd.prog 47 := ⟨Tryd.f47, Tryd.func47, by kernel_rfl, by kernel_rfl⟩
theorem can52 : Callable Tryd.prog 52 := ⟨Tryd.f52, Tryd.func52, by kernel_rfl, by kernel_rfl⟩
theorem can55 : Callable Tryd.prog 55 := ⟨Tryd.f55, Tryd.func55, by kernel_rfl, by kernel_rfl⟩
theorem can56 : Callable Tryd.prog 56 := ⟨Tryd.f56, Tryd.func56, by kernel_rfl, by kernel_rfl⟩
theorem can81 : Callable Tryd.prog 81 := ⟨Tryd.f81, Tryd.func81, by kernel_rfl, by kernel_rfl⟩
theorem can82 : Callable Tryd.prog 82 := ⟨Tryd.f82, Tryd.func82, by kernel_rfl, by kernel_rfl⟩

theorem CutPrefix {Z w : World} {L : List HP} {s p : ByteArray} (hst : St Z w L) : Calls Tryd.prog 81 #[.string s, .string p] w (Ret fun v w' => v = .tuple #[.string ⟨(Lib.trimPrefix s.data.toList p.data.toList).toArray⟩, .bool (Lib.hasPrefix s.data.toList p.data.toList)] ∧ St Z w' L) :=
  (Tryd.strings_CutPrefix s p w).mono fun e w' ⟨h1, h2⟩ => ⟨_, h1, rfl, h2 ▸ hst⟩
theorem CutSuffix {Z w : World} {L : List HP} {s p : ByteArray} (hs : s.size ≤ 9223372036854775807) (hst : St Z w L) : Calls Tryd.prog 82 #[.string s, .string p] w (Ret fun v w' => v = .tuple #[.string ⟨(Lib.trimSuffix s.data.toList p.data.toList).toArray⟩, .bool (Lib.hasSuffix s.data.toList p.data.toList)] ∧ St Z w' L) :=
  (Tryd.strings_CutSuffix s p w hs).mono fun e w' ⟨h1, h2⟩ => ⟨_, h1, rfl, h2 ▸ hst⟩
theorem trimR_len (l : List UInt8) (c : UInt8) : (Lib.trimRightB l c).length ≤ l.length := by
  unfold Lib.trimRightB
  have h := (List.dropWhile_suffix (fun x => x == c) (l := l.reverse)).length_le
  rw [List.length_reverse] at h ⊢
  exact h
theorem bytesV_nil : bytesV [] = [] := rfl
theorem trimP_len (l p : List UInt8) : (Lib.trimPrefix l p).length ≤ l.length := by
  unfold Lib.trimPrefix
  split <;> simp
theorem trimS_len (l p : List UInt8) : (Lib.trimSuffix l p).length ≤ l.length := by
  unfold Lib.trimSuffix
  split <;> simp
theorem soundOf_drop (ps : List Pc) : ∀ k, (soundOf (ps.drop k)).length ≤ (soundOf ps).length := by
  induction ps with
  | nil => intro k; simp [soundOf]
  | cons p ps ih =>
    intro k
    cases k with
    | zero => exact Nat.le_refl _
    | succ k =>
      have := ih k
      rw [List.drop_succ_cons]
      cases p <;> simp only [soundOf, List.length_append] <;> omega
theorem blockF_len (l : List UInt8) : 1 ≤ (blockF l).length ∧ (blockF l).length ≤ 81 := by
  have := titleF_le l
  unfold blockF
  rw [blockOf_len]
  omega

theorem title_calls {Z w : World} {Lf : List HP} {v : Value} {b : List UInt8} (hT : ∀ w, St Z w Lf → Lib.Utf8Tabs 1 2 w) (hr : ∀ w, St Z w Lf → SlR w v (bytesV b)) (hl : b.length ≤ 1000000) (hst : St Z w Lf) : Calls Tryd.prog 55 #[v] w (Ret fun r w' => r = .tuple #[.string ⟨(ttlS b).toArray⟩, .bool (ttlB b)] ∧ St Z w' Lf) := by
  refine J.enter (N := 40) (l := [v]) (C := Sto Z Lf) Tryd.func55 rfl Tryd.ntmps55 (by simp) (hst) ?_
  have h1 := trimR_len b 0
  have h2 := trimP_len (Lib.trimRightB b 0) openB
  have h3 := trimS_len (Lib.trimPrefix (Lib.trimRightB b 0) openB) shutB
  have hbl := blockF_len (ttlS b)
  have hsb : (⟨(ttlS b).toArray⟩ : ByteArray).size ≤ 1000000 := by rw [bsize]; unfold ttlS; omega
  refine J.seq ?_
  refine J.region ?_
  refine J.rd (Rd.assign rfl) rfl rfl ?_
  refine J.rd (Rd.assign rfl) rfl rfl ?_
  refine J.done ?_
  refine J.thenN ?_
  refine J.seq ?_
  refine J.region ?_
  refine J.rd (Rd.move rfl) rfl rfl ?_
  refine J.rd (Rd.convBS Tryd.underlying27 Tryd.underlying9 rfl (fun w hw => hr w hw) Tryd.underlying5) rfl rfl ?_
  refine J.call can52 rfl (fun w hC => Open.TrimRight 0 (by decide) (by rw [bsize]; omega) hC) rfl rfl (fun v9 => ?_)
  refine J.andC fun hv9 => ?_
  subst hv9
  refine J.rd (Rd.assign rfl) rfl rfl ?_
  refine J.done ?_
  refine J.thenN ?_
  refine J.seq ?_
  refine J.region ?_
  refine J.rd (Rd.move rfl) rfl rfl ?_
  refine J.call can81 rfl (fun w hC => CutPrefix hC) rfl rfl (fun v12 => ?_)
  refine J.andC fun hv12 => ?_
  subst hv12
  refine J.rd (Rd.move rfl) rfl rfl ?_
  refine J.rd (Rd.extractL rfl) rfl rfl ?_
  refine J.rd (Rd.extractL rfl) rfl rfl ?_
  refine J.rd (Rd.assign rfl) rfl rfl ?_
  refine J.rd (Rd.assign rfl) rfl rfl ?_
  refine J.done ?_
  refine J.thenN ?_
  refine J.seq ?_
  refine J.region ?_
  refine J.rd (Rd.move rfl) rfl rfl ?_
  refine J.call can82 rfl (fun w hC => CutSuffix (by rw [bsize]; show (Lib.trimPrefix (Lib.trimRightB b 0) openB).length ≤ _; omega) hC) rfl rfl (fun v17 => ?_)
  refine J.andC fun hv17 => ?_
  subst hv17
  refine J.rd (Rd.move rfl) rfl rfl ?_
  refine J.rd (Rd.extractL rfl) rfl rfl ?_
  refine J.rd (Rd.extractL rfl) rfl rfl ?_
  refine J.rd (Rd.assign rfl) rfl rfl ?_
  refine J.rd (Rd.assign rfl) rfl rfl ?_
  refine J.done ?_
  refine J.thenN ?_
  refine J.seq ?_
  refine J.mix [(true, 0), (true, 1), (true, 2), (true, 3), (true, 4), (true, 5), (true, 6), (true, 10), (true, 11), (false, 7), (true, 8), (true, 9), (true, 12), (true, 13), (true, 14), (true, 15), (true, 17), (false, 16), (true, 18), (true, 19), (true, 20), (true, 21)] mixed (by kernel_rfl) (fun w n h => St.drawn h n) (fun _ hw => hw) ?_
  refine JM.rd rfl (Rd.move rfl) rfl rfl ?_
  refine JM.rd rfl (Rd.move rfl) rfl rfl ?_
  refine JM.rd rfl (Rd.move rfl) rfl rfl ?_
  refine JM.bcase (fun hb1 => ?_) (fun hb1 => ?_)
  · skip
    refine JM.rd rfl (Rd.move rfl) rfl rfl ?_
    refine JM.rd rfl (Rd.pickT rfl rfl) rfl rfl ?_
    refine JM.rd rfl (Rd.move rfl) rfl rfl ?_
    refine JM.bcase (fun hb2 => ?_) (fun hb2 => ?_)
    · skip
      refine JM.rd rfl (Rd.move rfl) rfl rfl ?_
      refine JM.rd rfl (Rd.move rfl) rfl rfl ?_
      refine JM.rd rfl (Rd.convBS Tryd.underlying27 Tryd.underlying9 rfl (fun w hw => hr w (St.sub hw)) Tryd.underlying5) rfl rfl ?_
      refine JM.eff rfl ?_
      refine J.call can26 rfl (fun w hC => Block.Block_calls ⟨(ttlS b).toArray⟩ (fun w hw => hT w (St.sub hw)) (by omega) hC) rfl rfl (fun v27 => ?_)
      refine JM.next (fun _ hw => hw) (fun _ hw => St.sub hw) ?_
      refine JM.rd rfl (Rd.cutR (l := 1) (h := (bytesV (blockF (ttlS b))).length) Tryd.underlying27 ti5 rfl (fun w hw => ⟨SlR_own hw, CapOk_own hw⟩) ⟨_, rfl, rfl⟩ ⟨rfl, rfl⟩ (by rw [length_bytesV]; omega) (by exact Nat.le_refl _)) rfl rfl ?_
      refine JM.rd rfl (Rd.convBS Tryd.underlying27 Tryd.underlying9 rfl (fun w hw => SlR.cutDB (SlR_own hw) (CapOk_own hw) hbl.1) Tryd.underlying5) rfl rfl ?_
      refine JM.rd rfl (Rd.bin' rfl rfl rfl (fun _ => rfl)) rfl rfl ?_
      refine JM.rd rfl (Rd.pickT rfl rfl) rfl rfl ?_
      refine JM.rd rfl (Rd.move rfl) rfl rfl ?_
      refine JM.bcase (fun hb3 => ?_) (fun hb3 => ?_)
      · skip
        refine JM.rd rfl (Rd.move rfl) rfl rfl ?_
        refine JM.rd rfl (Rd.move rfl) rfl rfl ?_
        refine JM.eff rfl ?_
        refine J.call can47 rfl (fun w hC => Title.Title_calls ⟨(ttlS b).toArray⟩ (fun w hw => hT w (St.sub hw)) (by omega) hC) rfl rfl (fun v36 => ?_)
        refine J.andC fun hv36 => ?_
        subst hv36
        refine JM.next (fun _ hw => hw) (fun _ hw => St.sub hw) ?_
        refine JM.rd rfl (Rd.bin' rfl rfl rfl (fun _ => rfl)) rfl rfl ?_
        refine JM.rd rfl (Rd.pickT rfl rfl) rfl rfl ?_
        refine JM.rd rfl (Rd.assign rfl) rfl rfl ?_
        refine JM.rd rfl (Rd.assign rfl) rfl rfl ?_
        refine JM.done ?_
        refine J.thenN ?_
        refine J.ret ?_
        refine J.leave2 (.inr rfl) rfl rfl rfl (fun w' hC => ?_)
        have a1 : Lib.hasPrefix (Lib.trimRightB b 0) openB = true := hb1
        have a2 : Lib.hasSuffix (Lib.trimPrefix (Lib.trimRightB b 0) openB) shutB = true := hb2
        rw [str_eq2] at hb3
        have e : ttlB b = decide (titleF (ttlS b) = ttlS b) := by unfold ttlB; rw [a1, a2, hb3]; rfl
        refine ⟨?_, St.sub hC⟩
        show Value.tuple #[.string ⟨(ttlS b).toArray⟩, .bool ((⟨(titleF (ttlS b)).toArray⟩ : ByteArray).toList == (⟨(ttlS b).toArray⟩ : ByteArray).toList)] = _
        rw [str_eq2, e]
      · skip
        refine JM.pass rfl rfl rfl ?_
        refine JM.pass rfl rfl rfl ?_
        refine JM.passE rfl rfl rfl (fun _ hw => hw) ?_
        refine JM.pass rfl rfl rfl ?_
        refine JM.rd rfl (Rd.pickF rfl rfl) rfl rfl ?_
        refine JM.rd rfl (Rd.assign rfl) rfl rfl ?_
        refine JM.rd rfl (Rd.assign rfl) rfl rfl ?_
        refine JM.done ?_
        refine J.thenN ?_
        refine J.ret ?_
        refine J.leave2 (.inr rfl) rfl rfl rfl (fun w' hC => ?_)
        have a1 : Lib.hasPrefix (Lib.trimRightB b 0) openB = true := hb1
        have a2 : Lib.hasSuffix (Lib.trimPrefix (Lib.trimRightB b 0) openB) shutB = true := hb2
        rw [str_eq2] at hb3
        have e : ttlB b = false := by unfold ttlB; rw [a1, a2, hb3]; rfl
        refine ⟨?_, St.sub hC⟩
        show Value.tuple #[.string ⟨(ttlS b).toArray⟩, .bool false] = _
        rw [e]
    · skip
      refine JM.pass rfl rfl rfl ?_
      refine JM.pass rfl rfl rfl ?_
      refine JM.pass rfl rfl rfl ?_
      refine JM.passE rfl rfl rfl (fun _ hw => hw) ?_
      refine JM.pass rfl rfl rfl ?_
      refine JM.pass rfl rfl rfl ?_
      refine JM.pass rfl rfl rfl ?_
      refine JM.rd rfl (Rd.pickF rfl rfl) rfl rfl ?_
      refine JM.rd rfl (Rd.move rfl) rfl rfl ?_
      refine JM.pass rfl rfl rfl ?_
      refine JM.pass rfl rfl rfl ?_
      refine JM.passE rfl rfl rfl (fun _ hw => hw) ?_
      refine JM.pass rfl rfl rfl ?_
      refine JM.rd rfl (Rd.pickF rfl rfl) rfl rfl ?_
      refine JM.rd rfl (Rd.assign rfl) rfl rfl ?_
      refine JM.rd rfl (Rd.assign rfl) rfl rfl ?_
      refine JM.done ?_
      refine J.thenN ?_
      refine J.ret ?_
      refine J.leave2 (.inr rfl) rfl rfl rfl (fun w' hC => ?_)
      have a1 : Lib.hasPrefix (Lib.trimRightB b 0) openB = true := hb1
      have a2 : Lib.hasSuffix (Lib.trimPrefix (Lib.trimRightB b 0) openB) shutB = false := hb2
      have e : ttlB b = false := by unfold ttlB; rw [a1, a2]; rfl
      refine ⟨?_, hC⟩
      show Value.tuple #[.string ⟨(ttlS b).toArray⟩, .bool false] = _
      rw [e]
  · skip
    refine JM.pass rfl rfl rfl ?_
    refine JM.rd rfl (Rd.pickF rfl rfl) rfl rfl ?_
    refine JM.rd rfl (Rd.move rfl) rfl rfl ?_
    refine JM.pass rfl rfl rfl ?_
    refine JM.pass rfl rfl rfl ?_
    refine JM.pass rfl rfl rfl ?_
    refine JM.passE rfl rfl rfl (fun _ hw => hw) ?_
    refine JM.pass rfl rfl rfl ?_
    refine JM.pass rfl rfl rfl ?_
    refine JM.pass rfl rfl rfl ?_
    refine JM.rd rfl (Rd.pickF rfl rfl) rfl rfl ?_
    refine JM.rd rfl (Rd.move rfl) rfl rfl ?_
    refine JM.pass rfl rfl rfl ?_
    refine JM.pass rfl rfl rfl ?_
    refine JM.passE rfl rfl rfl (fun _ hw => hw) ?_
    refine JM.pass rfl rfl rfl ?_
    refine JM.rd rfl (Rd.pickF rfl rfl) rfl rfl ?_
    refine JM.rd rfl (Rd.assign rfl) rfl rfl ?_
    refine JM.rd rfl (Rd.assign rfl) rfl rfl ?_
    refine JM.done ?_
    refine J.thenN ?_
    refine J.ret ?_
    refine J.leave2 (.inr rfl) rfl rfl rfl (fun w' hC => ?_)
    have a1 : Lib.hasPrefix (Lib.trimRightB b 0) openB = false := hb1
    have e : ttlB b = false := by unfold ttlB; rw [a1]; rfl
    refine ⟨?_, hC⟩
    show Value.tuple #[.string ⟨(ttlS b).toArray⟩, .bool false] = _
    rw [e]

/-- How pieces (the last first) stand for values, and for rows that the call owns. -/
inductive PcsR : List Pc → List Value → List HP → Prop
  | nil : PcsR [] [] []
  | told {ps vs L} (t : List UInt8) : PcsR ps vs L → PcsR (.told t :: ps) (vs ++ [.iface 54 (.string ⟨t.toArray⟩)]) L
  | snd {ps vs L} (l : List UInt8) (sv : Value) : PcsR ps vs L → PcsR (.snd l :: ps) (vs ++ [.iface 120 sv]) (own 5 1 sv l.length (bytesV l) :: L)
theorem PcsR.len {ps vs L} (h : PcsR ps vs L) : vs.length = ps.length := by
  induction h with
  | nil => rfl
  | told t _ ih => simp [ih]
  | snd l sv _ ih => simp [ih]
theorem PcsR.get {ps vs L} (h : PcsR ps vs L) : ∀ k, k < vs.length → (∃ t, ps[ps.length - 1 - k]? = some (.told t) ∧ vs[k]? = some (.iface 54 (.string ⟨t.toArray⟩))) ∨ (∃ (l : List UInt8) (sv : Value) (i : Nat), ps[ps.length - 1 - k]? = some (.snd l) ∧ vs[k]? = some (.iface 120 sv) ∧ L[i]? = some (own 5 1 sv l.length (bytesV l))) := by
  induction h with
  | nil => intro k hk; simp at hk
  | @told ps vs L t h ih =>
    intro k hk
    have hl := h.len
    simp only [List.length_append, List.length_cons, List.length_nil] at hk
    by_cases e : k = vs.length
    · subst e
      left
      refine ⟨t, ?_, by simp⟩
      rw [List.length_cons, show ps.length + 1 - 1 - vs.length = 0 by omega]; rfl
    · have hk2 : k < vs.length := by omega
      rw [List.length_cons, show ps.length + 1 - 1 - k = (ps.length - 1 - k) + 1 by omega, List.getElem?_cons_succ, List.getElem?_append_left hk2]
      exact ih k hk2
  | @snd ps vs L l sv h ih =>
    intro k hk
    have hl := h.len
    simp only [List.length_append, List.length_cons, List.length_nil] at hk
    by_cases e : k = vs.length
    · subst e
      right
      refine ⟨l, sv, 0, ?_, by simp, rfl⟩
      rw [List.length_cons, show ps.length + 1 - 1 - vs.length = 0 by omega]; rfl
    · have hk2 : k < vs.length := by omega
      rw [List.length_cons, show ps.length + 1 - 1 - k = (ps.length - 1 - k) + 1 by omega, List.getElem?_cons_succ, List.getElem?_append_left hk2]
      rcases ih k hk2 with h1 | ⟨l', sv', i, h1, h2, h3⟩
      · exact .inl h1
      · exact .inr ⟨l', sv', i + 1, h1, h2, by simpa using h3⟩

theorem sound_nil {Z w : World} {Lf : List HP} {v : Value} {c : UInt8} (hst : St Z w (own 53 1 v 0 [] :: Lf)) : Calls Tryd.prog 56 #[v, .int .u8 c.toNat] w (Ret fun r w' => ∃ sv, St Z w' (own 53 1 r 1 [.iface 120 sv] :: own 5 1 sv 1 (bytesV [c]) :: Lf)) := by
  refine J.enter (N := 38) (l := [v, .int .u8 c.toNat]) (C := Sto Z (own 53 1 v 0 [] :: Lf)) Tryd.func56 rfl Tryd.ntmps56 (by simp) (hst) ?_
  refine J.seq ?_
  refine J.region ?_
  refine J.rd (Rd.assign rfl) rfl rfl ?_
  refine J.done ?_
  refine J.thenN ?_
  refine J.seq ?_
  refine J.seq ?_
  refine J.region ?_
  refine J.rd (Rd.move rfl) rfl rfl ?_
  refine J.rd (Rd.lenOwn rfl rfl Tryd.underlying48) rfl rfl ?_
  refine J.rd (Rd.assign rfl) rfl rfl ?_
  refine J.done ?_
  refine J.thenN ?_
  refine J.seq ?_
  refine J.region ?_
  refine J.rd (Rd.move rfl) rfl rfl ?_
  refine J.rd (Rd.bin' rfl rfl rfl (fun _ => rfl)) rfl rfl ?_
  refine J.done ?_
  refine J.thenN ?_
  refine J.cond rfl (fun hb1 => ?_) (fun hb1 => ?_)
  · skip
    simp at hb1
  · skip
    refine J.skip ?_
    refine J.thenN ?_
    refine J.seq ?_
    refine J.region ?_
    refine J.rd (Rd.move rfl) rfl rfl ?_
    refine J.rd (Rd.move rfl) rfl rfl ?_
    refine J.lit1 ti5 Tryd.underlying120 rfl rfl rfl rfl rfl (fun b34 => ?_)
    refine J.ownRow (n := 1) (b := b34) rfl ?_
    refine J.rd (Rd.iface rfl Tryd.underlying120 rfl) rfl rfl ?_
    refine J.lit1 ti53 Tryd.underlying48 rfl rfl rfl rfl rfl (fun b36 => ?_)
    refine J.app1 ti53 Tryd.underlying48 rfl rfl rfl (by omega) (by omega) rfl rfl rfl (fun b37 c37 => ?_)
    refine J.rd (Rd.assign rfl) rfl rfl ?_
    refine J.done ?_
    refine J.thenN ?_
    refine J.ret ?_
    refine J.leave1 (.inr rfl) rfl rfl (fun w' hC => ?_)
    refine ⟨.slice (some ⟨b34, 0, none⟩) 1 1, ?_⟩
    rw [bytesV_one]
    have h2 := hC
    try simp only [List.nil_append, Nat.zero_add] at h2
    exact St.sub h2

theorem sound_told {Z w : World} {Lf : List HP} {v u : Value} {us : List Value} {n : Nat} {c : UInt8} (hn : n = us.length + 1) (hb : n ≤ 1000000) (hst : St Z w (own 53 1 v n (us ++ [.iface 54 u]) :: Lf)) : Calls Tryd.prog 56 #[v, .int .u8 c.toNat] w (Ret fun r w' => ∃ sv, St Z w' (own 53 1 r (n + 1) (us ++ [.iface 54 u] ++ [.iface 120 sv]) :: own 5 1 sv 1 (bytesV [c]) :: Lf)) := by
  refine J.enter (N := 38) (l := [v, .int .u8 c.toNat]) (C := Sto Z (own 53 1 v n (us ++ [.iface 54 u]) :: Lf)) Tryd.func56 rfl Tryd.ntmps56 (by simp) (hst) ?_
  refine J.seq ?_
  refine J.region ?_
  refine J.rd (Rd.assign rfl) rfl rfl ?_
  refine J.done ?_
  refine J.thenN ?_
  refine J.seq ?_
  refine J.seq ?_
  refine J.region ?_
  refine J.rd (Rd.move rfl) rfl rfl ?_
  refine J.rd (Rd.lenOwn rfl rfl Tryd.underlying48) rfl rfl ?_
  refine J.rd (Rd.assign rfl) rfl rfl ?_
  refine J.done ?_
  refine J.thenN ?_
  refine J.seq ?_
  refine J.region ?_
  refine J.rd (Rd.move rfl) rfl rfl ?_
  refine J.rd (Rd.bin' rfl rfl rfl (fun _ => rfl)) rfl rfl ?_
  refine J.done ?_
  refine J.thenN ?_
  refine J.cond rfl (fun hb1 => ?_) (fun hb1 => ?_)
  · skip
    refine J.seq ?_
    refine J.region ?_
    refine J.rd (Rd.move rfl) rfl rfl ?_
    refine J.rd (Rd.move rfl) rfl rfl ?_
    refine J.rd (Rd.bin' rfl rfl rfl (fun _ => rfl)) rfl rfl ?_
    first | refine J.val (wI64 ⟨by omega, by omega⟩) ?_ | skip
    refine J.val (show _ = Value.int .i64 ((n - 1 : Nat) : Int) from congrArg (Value.int .i64) (by omega)) ?_
    refine J.idxA (v := v) (i := n - 1) ti53 Tryd.underlying48 rfl rfl (by omega) rfl rfl (fun gb16 o16 had16 => ?_)
    refine J.rd (Rd.load rfl Tryd.underlying53 rfl (fun w hC => cell_own (v := v) (q := 0) (vx := .iface 54 u) hC had16 rfl (by rw [hn]; simp))) rfl rfl ?_
    refine J.rd (Rd.assertF Tryd.underlying120 rfl ti120 (by decide) rfl) rfl rfl ?_
    refine J.rd (Rd.move rfl) rfl rfl ?_
    refine J.rd (Rd.extractL rfl) rfl rfl ?_
    refine J.rd (Rd.extractL rfl) rfl rfl ?_
    refine J.rd (Rd.assign rfl) rfl rfl ?_
    refine J.rd (Rd.assign rfl) rfl rfl ?_
    refine J.done ?_
    refine J.thenN ?_
    refine J.seq ?_
    refine J.region ?_
    refine J.rd (Rd.move rfl) rfl rfl ?_
    refine J.done ?_
    refine J.thenN ?_
    refine J.cond rfl (fun hb2 => ?_) (fun hb2 => ?_)
    · skip
      cases hb2
    · skip
      refine J.skip ?_
      refine J.thenN ?_
      refine J.seq ?_
      refine J.region ?_
      refine J.rd (Rd.move rfl) rfl rfl ?_
      refine J.rd (Rd.move rfl) rfl rfl ?_
      refine J.lit1 ti5 Tryd.underlying120 rfl rfl rfl rfl rfl (fun b34 => ?_)
      refine J.ownRow (n := 1) (b := b34) rfl ?_
      refine J.rd (Rd.iface rfl Tryd.underlying120 rfl) rfl rfl ?_
      refine J.lit1 ti53 Tryd.underlying48 rfl rfl rfl rfl rfl (fun b36 => ?_)
      refine J.app1 ti53 Tryd.underlying48 rfl rfl rfl (by omega) (by omega) rfl rfl rfl (fun b37 c37 => ?_)
      refine J.rd (Rd.assign rfl) rfl rfl ?_
      refine J.done ?_
      refine J.thenN ?_
      refine J.ret ?_
      refine J.leave1 (.inr rfl) rfl rfl (fun w' hC => ?_)
      refine ⟨.slice (some ⟨b34, 0, none⟩) 1 1, ?_⟩
      rw [bytesV_one]
      have h2 := hC
      try simp only [List.nil_append, Nat.zero_add] at h2
      exact St.sub h2
  · skip
    simp at hb1; omega

theorem sound_snd {Z w : World} {Lf : List HP} {v sv : Value} {us : List Value} {bs : List UInt8} {n : Nat} {c : UInt8} (hn : n = us.length + 1) (hb : n ≤ 1000000) (hbs : bs.length ≤ 1000000) (hst : St Z w (own 53 1 v n (us ++ [.iface 120 sv]) :: own 5 1 sv bs.length (bytesV bs) :: Lf)) : Calls Tryd.prog 56 #[v, .int .u8 c.toNat] w (Ret fun r w' => ∃ sv', St Z w' (own 53 1 r n (us ++ [.iface 120 sv']) :: own 5 1 sv' (bs.length + 1) (bytesV (bs ++ [c])) :: Lf)) := by
  refine J.enter (N := 38) (l := [v, .int .u8 c.toNat]) (C := Sto Z (own 53 1 v n (us ++ [.iface 120 sv]) :: own 5 1 sv bs.length (bytesV bs) :: Lf)) Tryd.func56 rfl Tryd.ntmps56 (by simp) (hst) ?_
  refine J.seq ?_
  refine J.region ?_
  refine J.rd (Rd.assign rfl) rfl rfl ?_
  refine J.done ?_
  refine J.thenN ?_
  refine J.seq ?_
  refine J.seq ?_
  refine J.region ?_
  refine J.rd (Rd.move rfl) rfl rfl ?_
  refine J.rd (Rd.lenOwn rfl rfl Tryd.underlying48) rfl rfl ?_
  refine J.rd (Rd.assign rfl) rfl rfl ?_
  refine J.done ?_
  refine J.thenN ?_
  refine J.seq ?_
  refine J.region ?_
  refine J.rd (Rd.move rfl) rfl rfl ?_
  refine J.rd (Rd.bin' rfl rfl rfl (fun _ => rfl)) rfl rfl ?_
  refine J.done ?_
  refine J.thenN ?_
  refine J.cond rfl (fun hb1 => ?_) (fun hb1 => ?_)
  · skip
    refine J.seq ?_
    refine J.region ?_
    refine J.rd (Rd.move rfl) rfl rfl ?_
    refine J.rd (Rd.move rfl) rfl rfl ?_
    refine J.rd (Rd.bin' rfl rfl rfl (fun _ => rfl)) rfl rfl ?_
    first | refine J.val (wI64 ⟨by omega, by omega⟩) ?_ | skip
    refine J.val (show _ = Value.int .i64 ((n - 1 : Nat) : Int) from congrArg (Value.int .i64) (by omega)) ?_
    refine J.idxA (v := v) (i := n - 1) ti53 Tryd.underlying48 rfl rfl (by omega) rfl rfl (fun gb16 o16 had16 => ?_)
    refine J.rd (Rd.load rfl Tryd.underlying53 rfl (fun w hC => cell_own (v := v) (q := 0) (vx := .iface 120 sv) hC had16 rfl (by rw [hn]; simp))) rfl rfl ?_
    refine J.rd (Rd.assertT Tryd.underlying120 rfl rfl) rfl rfl ?_
    refine J.rd (Rd.move rfl) rfl rfl ?_
    refine J.rd (Rd.extractL rfl) rfl rfl ?_
    refine J.rd (Rd.extractL rfl) rfl rfl ?_
    refine J.rd (Rd.assign rfl) rfl rfl ?_
    refine J.rd (Rd.assign rfl) rfl rfl ?_
    refine J.done ?_
    refine J.thenN ?_
    refine J.seq ?_
    refine J.region ?_
    refine J.rd (Rd.move rfl) rfl rfl ?_
    refine J.done ?_
    refine J.thenN ?_
    refine J.cond rfl (fun hb2 => ?_) (fun hb2 => ?_)
    · skip
      refine J.seq ?_
      refine J.region ?_
      refine J.rd (Rd.move rfl) rfl rfl ?_
      refine J.rd (Rd.move rfl) rfl rfl ?_
      refine J.rd (Rd.bin' rfl rfl rfl (fun _ => rfl)) rfl rfl ?_
      first | refine J.val (wI64 ⟨by omega, by omega⟩) ?_ | skip
      refine J.val (show _ = Value.int .i64 ((n - 1 : Nat) : Int) from congrArg (Value.int .i64) (by omega)) ?_
      refine J.rd (Rd.move rfl) rfl rfl ?_
      refine J.rd (Rd.move rfl) rfl rfl ?_
      refine J.lit1 ti5 Tryd.underlying120 rfl rfl rfl rfl rfl (fun b27 => ?_)
      refine J.app1 ti5 Tryd.underlying120 rfl rfl rfl (by omega) (by omega) rfl rfl rfl (fun b28 c28 => ?_)
      refine J.rd (Rd.iface rfl Tryd.underlying120 rfl) rfl rfl ?_
      refine J.idxA (v := v) (i := n - 1) ti53 Tryd.underlying48 rfl rfl (by omega) rfl rfl (fun gb30 o30 had30 => ?_)
      refine J.stoO (v := v) had30 (q := 0) rfl ti53 rfl rfl (by rw [hn]; simp) rfl rfl ?_
      refine J.done ?_
      refine J.thenN ?_
      refine J.seq ?_
      refine J.region ?_
      refine J.rd (Rd.move rfl) rfl rfl ?_
      refine J.rd (Rd.assign rfl) rfl rfl ?_
      refine J.done ?_
      refine J.thenN ?_
      refine J.ret ?_
      refine J.thenR ?_
      refine J.leave1 (.inr rfl) rfl rfl (fun w' hC => ?_)
      refine ⟨.slice b28 (bs.length + 1) c28, ?_⟩
      have e : (us ++ [Value.iface 120 sv]).set ((n - 1) * 1 + 0) (.iface 120 (.slice b28 (bs.length + 1) c28)) = us ++ [.iface 120 (.slice b28 (bs.length + 1) c28)] := by
        rw [hn]; simp
      rw [e] at hC
      rw [bytesV_append, bytesV_one]
      exact St.sub hC
    · skip
      cases hb2
  · skip
    simp at hb1; omega

theorem sound_calls {Z w : World} {Lf : List HP} {ps : List Pc} {vs : List Value} {L : List HP} {v : Value} {c : UInt8} (h : PcsR ps vs L) (hb : ps.length ≤ 500000) (hs : (soundOf ps).length ≤ 500000) (hst : St Z w (own 53 1 v vs.length vs :: (L ++ Lf))) :
    Calls Tryd.prog 56 #[v, .int .u8 c.toNat] w (Ret fun r w' => ∃ vs' L', PcsR (putS c ps) vs' L' ∧ St Z w' (own 53 1 r vs'.length vs' :: (L' ++ Lf))) := by
  have hlen := h.len
  cases h with
  | nil => exact (sound_nil hst).mono (Ret.mono fun r w' ⟨sv, h⟩ => ⟨_, _, PcsR.snd [c] sv .nil, h⟩)
  | @told ps vs L t h =>
    have := sound_told (us := vs) (n := vs.length + 1) rfl (by simp at hlen hb; omega) (c := c) (by simpa using hst)
    exact this.mono (Ret.mono fun r w' ⟨sv, h'⟩ => ⟨_, _, PcsR.snd [c] sv (PcsR.told t h), by simpa using h'⟩)
  | @snd ps vs L l sv h =>
    have := sound_snd (us := vs) (n := vs.length + 1) (bs := l) rfl (by simp at hlen hb; omega) (by simp only [soundOf, List.length_append] at hs; omega) (c := c) (Lf := L ++ Lf) (by simpa using hst)
    exact this.mono (Ret.mono fun r w' ⟨sv', h'⟩ => ⟨_, _, PcsR.snd (l ++ [c]) sv' h, by simpa using h'⟩)
/-- What a parter's state keeps to. -/
structure PtOk (S : PS) (n k : Nat) : Prop where
  n : S.n ≤ n
  room : S.block.length + S.left ≤ 4080
  none : S.left = 0 → S.block = []
  out : S.out.length ≤ k
  sound : (soundOf S.out).length ≤ k
theorem pt_ok {every n : Nat} {s : PS} (h : PtOk s n 0) : ∀ data : List UInt8, PtOk (ptRun every s data) (n + data.length) data.length := by
  refine snoc_ind h (fun data c ih => ?_)
  have e : ptRun every s (data ++ [c]) = ptStep every (ptRun every s data) c := by simp [ptRun]
  rw [e]
  generalize ptRun every s data = S at ih
  obtain ⟨h1, h2, h3, h4, h5⟩ := ih
  have hc := c.toNat_lt
  have hps : (putS c S.out).length ≤ S.out.length + 1 := by
    cases S.out with
    | nil => simp [putS]
    | cons p ps => cases p <;> simp [putS]
  simp only [List.length_append, List.length_cons, List.length_nil]
  unfold ptStep
  split
  · split
    · exact ⟨by simp only; omega, by simp only [List.length_append, List.length_cons, List.length_nil]; omega, fun h => by simp only at h; omega, by simp only; omega, by simp only; omega⟩
    · split
      · exact ⟨by simp only; omega, by simp, fun _ => rfl, by simp only [List.length_cons]; omega, by simp only [soundOf]; omega⟩
      · exact ⟨by simp only; omega, by simp, fun _ => rfl, by simp only; omega, by simp only; omega⟩
  · have hb := h3 (by omega)
    split
    · exact ⟨by simp only; omega, by simp only [hb, List.length_nil]; omega, fun _ => hb, by simp only; omega, by simp only; omega⟩
    · exact ⟨by simp only; omega, h2, h3, by simp only; omega, by simp only [soundOf_putS, List.length_append, List.length_cons, List.length_nil]; omega⟩

theorem Part_calls {Z w : World} {Lf : List HP} {p n left : Nat} {bv dv : Value} {block data : List UInt8} (every : Nat) (hT : ∀ w, St Z w Lf → Lib.Utf8Tabs 1 2 w) (hr : ∀ w, St Z w Lf → SlR w dv (bytesV data)) (hl : data.length ≤ 100000) (hn : n ≤ 1000000000) (hb : block.length + left ≤ 4080) (hb0 : left = 0 → block = [])
    (hst : St Z w (pts p (.cells [.int .i64 (every : Nat), .int .i64 (n : Nat), .int .i64 (left : Nat), bv].toArray 116 (0, 0)) :: own 5 1 bv block.length (bytesV block) :: Lf)) :
    Calls Tryd.prog 27 #[.pointer (some ⟨p, 0, none⟩), dv] w (Ret fun r w' => ∃ v bv' vs L, r = .tuple #[v, .int .i64 (if (ptRun every ⟨n, left, block, true, []⟩ data).ok then 0 else 3)] ∧ PcsR (ptRun every ⟨n, left, block, true, []⟩ data).out vs L ∧
      St Z w' (own 53 1 v vs.length vs :: pts p (.cells [.int .i64 (every : Nat), .int .i64 ((ptRun every ⟨n, left, block, true, []⟩ data).n : Nat), .int .i64 ((ptRun every ⟨n, left, block, true, []⟩ data).left : Nat), bv'].toArray 116 (0, 0)) :: own 5 1 bv' (ptRun every ⟨n, left, block, true, []⟩ data).block.length (bytesV (ptRun every ⟨n, left, block, true, []⟩ data).block) :: (L ++ Lf))) := by
  refine J.enter (N := 104) (l := [.pointer (some ⟨p, 0, none⟩), dv]) (C := Sto Z (pts p (.cells [.int .i64 (every : Nat), .int .i64 (n : Nat), .int .i64 (left : Nat), bv].toArray 116 (0, 0)) :: own 5 1 bv block.length (bytesV block) :: Lf)) Tryd.func27 rfl Tryd.ntmps27 (by simp) (hst) ?_
  refine J.seq ?_
  refine J.region ?_
  refine J.rd (Rd.assign rfl) rfl rfl ?_
  refine J.rd (Rd.assign rfl) rfl rfl ?_
  refine J.done ?_
  refine J.thenN ?_
  refine J.seq ?_
  refine J.seq ?_
  refine J.region ?_
  refine J.rd (Rd.move rfl) rfl rfl ?_
  refine J.rd (Rd.nilEq Tryd.underlying40 rfl) rfl rfl ?_
  refine J.done ?_
  refine J.thenN ?_
  refine J.cond rfl (fun hb1 => ?_) (fun hb1 => ?_)
  · skip
    cases hb1
  · skip
    refine J.skip ?_
    refine J.thenN ?_
    refine J.seq ?_
    refine J.region ?_
    refine J.rd (Rd.assign rfl) rfl rfl ?_
    refine J.done ?_
    refine J.thenN ?_
    refine J.seq ?_
    refine J.region ?_
    refine J.rd (Rd.assign rfl) rfl rfl ?_
    refine J.done ?_
    refine J.thenN ?_
    refine J.seq ?_
    refine J.seq ?_
    refine J.region ?_
    refine J.rd (Rd.move rfl) rfl rfl ?_
    refine J.rd (Rd.lenR Tryd.underlying27 rfl (fun w hw => hr w (St.sub hw)) rfl) rfl rfl ?_
    refine J.rd (Rd.move rfl) rfl rfl ?_
    refine J.done ?_
    refine J.thenN ?_
    refine J.block ?_
    refine J.loop (σ := Nat × Value × Value × List Value × List HP) (fun q => data.length - q.1) (fun q => [(0, .pointer (some ⟨p, 0, none⟩)), (14, dv), (15, .int .i64 ((bytesV data).length : Int)), (16, .int .i64 (q.1 : Int)), (6, q.2.1), (7, .int .i64 (if (ptRun every ⟨n, left, block, true, []⟩ (data.take q.1)).ok then 0 else 3))])
      (fun q w => (q.1 ≤ data.length ∧ PcsR (ptRun every ⟨n, left, block, true, []⟩ (data.take q.1)).out q.2.2.2.1 q.2.2.2.2) ∧ St Z w (own 53 1 q.2.1 q.2.2.2.1.length q.2.2.2.1 :: pts p (.cells [.int .i64 (every : Nat), .int .i64 ((ptRun every ⟨n, left, block, true, []⟩ (data.take q.1)).n : Nat), .int .i64 ((ptRun every ⟨n, left, block, true, []⟩ (data.take q.1)).left : Nat), q.2.2.1].toArray 116 (0, 0)) :: own 5 1 q.2.2.1 (ptRun every ⟨n, left, block, true, []⟩ (data.take q.1)).block.length (bytesV (ptRun every ⟨n, left, block, true, []⟩ (data.take q.1)).block) :: (q.2.2.2.2 ++ Lf)))
      (0, .slice none 0 0, bv, [], []) (.cons rfl (.cons rfl (.cons rfl (.cons rfl (.cons rfl (.cons rfl .nil)))))) (fun w hw => ⟨⟨Nat.zero_le _, .nil⟩, St.ownNil 53 1 hw⟩) ?_
    rintro ⟨k, v, bv1, vs, Lp⟩
    refine J.andC fun hq => ?_
    obtain ⟨hq1, hq2⟩ := hq
    have hok := pt_ok (every := every) (n := n) (s := ⟨n, left, block, true, []⟩) ⟨Nat.le_refl _, hb, hb0, by simp, by simp [soundOf]⟩ (data.take k)
    generalize hS : ptRun every ⟨n, left, block, true, []⟩ (data.take k) = S at hok hq2
    obtain ⟨n1, left1, block1, ok1, out1⟩ := S
    obtain ⟨o1, o2, o3, o4, o5⟩ := hok
    simp only [List.length_take] at o1 o2 o3 o4 o5 hq1 hq2
    simp only [hS]
    have hvl := hq2.len
    have hoff : ∀ w {X Y U : HP}, St Z w (X :: Y :: U :: (Lp ++ Lf)) → St Z w Lf := fun w _ _ _ h => St.offL h.drop0.drop0.drop0
    refine J.seq ?_
    refine J.region ?_
    refine J.rd (Rd.bin' rfl rfl rfl (fun _ => rfl)) rfl rfl ?_
    refine J.done ?_
    refine J.thenN ?_
    refine J.seq ?_
    refine J.cond rfl (fun hb2 => ?_) (fun hb2 => ?_)
    · skip
      refine J.skip ?_
      refine J.thenN ?_
      refine J.seq ?_
      refine J.block ?_
      refine J.seq ?_
      have hlt : k < data.length := by simp [length_bytesV] at hb2; omega
      obtain ⟨c, hc⟩ : ∃ c, data[k]? = some c := ⟨_, List.getElem?_eq_getElem hlt⟩
      have hc256 := c.toNat_lt
      refine J.region ?_
      refine J.idxR ti5 Tryd.underlying27 rfl rfl (fun w hw => hr w (hoff w hw)) (bytesV_get hc) rfl rfl (fun ad18 had18 => ?_)
      refine J.rd (Rd.load rfl Tryd.underlying5 rfl (had18)) rfl rfl ?_
      refine J.rd (Rd.assign rfl) rfl rfl ?_
      refine J.done ?_
      refine J.thenN ?_
      refine J.block ?_
      refine J.seq ?_
      refine J.region ?_
      refine J.rd (Rd.move rfl) rfl rfl ?_
      refine J.rd (Rd.nilCheck rfl) rfl rfl ?_
      refine J.rd (Rd.fld fd116_2 rfl) rfl rfl ?_
      refine J.rd (Rd.ld Tryd.underlying3 rfl rfl rfl) rfl rfl ?_
      refine J.rd (Rd.bin' rfl rfl rfl (fun _ => rfl)) rfl rfl ?_
      refine J.rd (Rd.assign rfl) rfl rfl ?_
      refine J.done ?_
      refine J.thenN ?_
      refine J.cond rfl (fun hb3 => ?_) (fun hb3 => ?_)
      · skip
        refine J.seq ?_
        refine J.region ?_
        refine J.rd (Rd.move rfl) rfl rfl ?_
        refine J.rd (Rd.move rfl) rfl rfl ?_
        refine J.rd (Rd.nilCheck rfl) rfl rfl ?_
        refine J.rd (Rd.fld fd116_3 rfl) rfl rfl ?_
        refine J.rd (Rd.ld Tryd.underlying27 rfl rfl rfl) rfl rfl ?_
        refine J.rd (Rd.move rfl) rfl rfl ?_
        refine J.lit1 ti5 Tryd.underlying27 rfl rfl rfl rfl rfl (fun b42 => ?_)
        refine J.app1 ti5 Tryd.underlying27 rfl rfl rfl (by omega) (by omega) rfl rfl rfl (fun b43 c43 => ?_)
        refine J.rd (Rd.nilCheck rfl) rfl rfl ?_
        refine J.rd (Rd.fld fd116_3 rfl) rfl rfl ?_
        refine J.sto ti27 rfl rfl rfl rfl ?_
        refine J.done ?_
        refine J.thenN ?_
        refine J.seq ?_
        refine J.seq ?_
        refine J.region ?_
        refine J.rd (Rd.move rfl) rfl rfl ?_
        refine J.rd (Rd.nilCheck rfl) rfl rfl ?_
        refine J.rd (Rd.fld fd116_2 rfl) rfl rfl ?_
        refine J.rd (Rd.ld Tryd.underlying3 rfl rfl rfl) rfl rfl ?_
        refine J.rd (Rd.bin' rfl rfl rfl (fun _ => rfl)) rfl rfl ?_
        first | refine J.val (wI64 ⟨by omega, by omega⟩) ?_ | skip
        refine J.val (show _ = Value.int .i64 ((left1 - 1 : Nat) : Int) from congrArg (Value.int .i64) (by simp at hb3; omega)) ?_
        refine J.rd (Rd.nilCheck rfl) rfl rfl ?_
        refine J.rd (Rd.fld fd116_2 rfl) rfl rfl ?_
        refine J.sto ti3 rfl rfl rfl rfl ?_
        refine J.done ?_
        refine J.thenN ?_
        refine J.seq ?_
        refine J.region ?_
        refine J.rd (Rd.move rfl) rfl rfl ?_
        refine J.rd (Rd.nilCheck rfl) rfl rfl ?_
        refine J.rd (Rd.fld fd116_2 rfl) rfl rfl ?_
        refine J.rd (Rd.ld Tryd.underlying3 rfl rfl rfl) rfl rfl ?_
        refine J.rd (Rd.bin' rfl rfl rfl (fun _ => rfl)) rfl rfl ?_
        refine J.done ?_
        refine J.thenN ?_
        refine J.cond rfl (fun hb4 => ?_) (fun hb4 => ?_)
        · skip
          refine J.exit ?_
          refine J.thenE ?_
          refine J.blockF rfl ?_
          refine J.blockE ?_
          refine J.thenN ?_
          refine J.region ?_
          refine J.rd (Rd.bin' rfl rfl rfl (fun _ => rfl)) rfl rfl ?_
          first | refine J.val (wI64 ⟨by omega, by omega⟩) ?_ | skip
          refine J.rd (Rd.move rfl) rfl rfl ?_
          refine J.done ?_
          refine J.thenN ?_
          have hs : ptRun every ⟨n, left, block, true, []⟩ (data.take (k + 1)) = ⟨n1, left1 - 1, block1 ++ [c], ok1, out1⟩ := by
            rw [ptRun_take hc, hS]
            simp only [ptStep]
            rw [if_pos (by simp at hb3; omega), if_pos (by simp at hb4; omega)]
          refine J.again (k, v, bv1, vs, Lp) (k + 1, v, .slice b43 (block1.length + 1) c43, vs, Lp) ?_ ?_ (fun w hw => ⟨⟨?_, ?_⟩, ?_⟩)
          · show data.length - (k + 1) < data.length - k; omega
          · simp only [hs]
            exact .cons rfl (.cons rfl (.cons rfl (.cons rfl (.cons rfl (.cons rfl .nil)))))
          · simp only; omega
          · simp only [hs]
            exact hq2
          · skip
            have e1 : (block1 ++ [c]).length = block1.length + 1 := by simp
            have e2 : bytesV (block1 ++ [c]) = bytesV block1 ++ [.int .u8 c.toNat] := by simp [bytesV]
            simp only [hs, e1, e2]
            exact hw
        · skip
          refine J.skip ?_
          refine J.thenN ?_
          refine J.seq ?_
          refine J.seq ?_
          refine J.region ?_
          refine J.rd (Rd.move rfl) rfl rfl ?_
          refine J.rd (Rd.nilCheck rfl) rfl rfl ?_
          refine J.rd (Rd.fld fd116_3 rfl) rfl rfl ?_
          refine J.rd (Rd.ld Tryd.underlying27 rfl rfl rfl) rfl rfl ?_
          refine J.call can55 rfl (fun w hC => title_calls (b := block1 ++ [c]) (fun w hw => hT w (hoff w hw)) (fun w hw => by rw [bytesV_append]; exact SlR_own hw) (by simp; omega) hC) rfl rfl (fun v63 => ?_)
          refine J.andC fun hv63 => ?_
          subst hv63
          refine J.rd (Rd.move rfl) rfl rfl ?_
          refine J.rd (Rd.extractL rfl) rfl rfl ?_
          refine J.rd (Rd.extractL rfl) rfl rfl ?_
          refine J.rd (Rd.assign rfl) rfl rfl ?_
          refine J.rd (Rd.assign rfl) rfl rfl ?_
          refine J.done ?_
          refine J.thenN ?_
          refine J.seq ?_
          refine J.region ?_
          refine J.rd (Rd.move rfl) rfl rfl ?_
          refine J.done ?_
          refine J.thenN ?_
          refine J.cond rfl (fun hb5 => ?_) (fun hb5 => ?_)
          · skip
            refine J.region ?_
            refine J.rd (Rd.move rfl) rfl rfl ?_
            refine J.rd (Rd.move rfl) rfl rfl ?_
            refine J.rd (Rd.iface rfl Tryd.underlying54 rfl) rfl rfl ?_
            refine J.lit1 ti53 Tryd.underlying48 rfl rfl rfl rfl rfl (fun b70 => ?_)
            refine J.app1 ti53 Tryd.underlying48 rfl rfl rfl (by omega) (by omega) rfl rfl rfl (fun b71 c71 => ?_)
            refine J.rd (Rd.assign rfl) rfl rfl ?_
            refine J.done ?_
            refine J.thenN ?_
            refine J.region ?_
            refine J.rd (Rd.move rfl) rfl rfl ?_
            refine J.rd (Rd.nilCheck rfl) rfl rfl ?_
            refine J.rd (Rd.fld fd116_3 rfl) rfl rfl ?_
            refine J.sto ti27 rfl rfl rfl rfl ?_
            refine J.done ?_
            refine J.blockN ?_
            refine J.blockN ?_
            refine J.thenN ?_
            refine J.region ?_
            refine J.rd (Rd.bin' rfl rfl rfl (fun _ => rfl)) rfl rfl ?_
            first | refine J.val (wI64 ⟨by omega, by omega⟩) ?_ | skip
            refine J.rd (Rd.move rfl) rfl rfl ?_
            refine J.done ?_
            refine J.thenN ?_
            obtain rfl : left1 = 1 := by simp at hb3 hb4; omega
            have hs : ptRun every ⟨n, left, block, true, []⟩ (data.take (k + 1)) = ⟨n1, 0, [], ok1, .told (ttlS (block1 ++ [c])) :: out1⟩ := by
              rw [ptRun_take hc, hS]
              simp only [ptStep]
              rw [if_pos (by omega), if_neg (by omega)]
              simp only [ttl, hb5, if_true]
            refine J.again (k, v, bv1, vs, Lp) (k + 1, .slice b71 (vs.length + 1) c71, .slice none 0 0, vs ++ [.iface 54 (.string ⟨(ttlS (block1 ++ [c])).toArray⟩)], Lp) ?_ ?_ (fun w hw => ⟨⟨?_, ?_⟩, ?_⟩)
            · show data.length - (k + 1) < data.length - k; omega
            · simp only [hs]
              exact .cons rfl (.cons rfl (.cons rfl (.cons rfl (.cons rfl (.cons rfl .nil)))))
            · simp only; omega
            · simp only [hs]
              exact PcsR.told _ hq2
            · skip
              simp only [hs, List.length_append, List.length_cons, List.length_nil, Nat.zero_add, bytesV_nil]
              have hw2 := St.ownNil 5 1 hw
              simp only [Nat.sub_self] at hw2
              exact St.sub hw2
          · skip
            refine J.region ?_
            refine J.rd (Rd.assign rfl) rfl rfl ?_
            refine J.done ?_
            refine J.thenN ?_
            refine J.region ?_
            refine J.rd (Rd.move rfl) rfl rfl ?_
            refine J.rd (Rd.nilCheck rfl) rfl rfl ?_
            refine J.rd (Rd.fld fd116_3 rfl) rfl rfl ?_
            refine J.sto ti27 rfl rfl rfl rfl ?_
            refine J.done ?_
            refine J.blockN ?_
            refine J.blockN ?_
            refine J.thenN ?_
            refine J.region ?_
            refine J.rd (Rd.bin' rfl rfl rfl (fun _ => rfl)) rfl rfl ?_
            first | refine J.val (wI64 ⟨by omega, by omega⟩) ?_ | skip
            refine J.rd (Rd.move rfl) rfl rfl ?_
            refine J.done ?_
            refine J.thenN ?_
            obtain rfl : left1 = 1 := by simp at hb3 hb4; omega
            have hs : ptRun every ⟨n, left, block, true, []⟩ (data.take (k + 1)) = ⟨n1, 0, [], false, out1⟩ := by
              rw [ptRun_take hc, hS]
              simp only [ptStep]
              rw [if_pos (by omega), if_neg (by omega)]
              simp only [ttl, hb5, Bool.false_eq_true, if_false]
            refine J.again (k, v, bv1, vs, Lp) (k + 1, v, .slice none 0 0, vs, Lp) ?_ ?_ (fun w hw => ⟨⟨?_, ?_⟩, ?_⟩)
            · show data.length - (k + 1) < data.length - k; omega
            · simp only [hs]
              exact .cons rfl (.cons rfl (.cons rfl (.cons rfl (.cons rfl (.cons rfl .nil)))))
            · simp only; omega
            · simp only [hs]
              exact hq2
            · skip
              simp only [hs, List.length_nil, bytesV_nil]
              have hw2 := St.ownNil 5 1 hw
              simp only [Nat.sub_self] at hw2
              exact St.sub hw2
      · skip
        refine J.seq ?_
        refine J.draw mixed (by kernel_rfl) (fun w n h => St.drawn h n) ?_
        refine JQ.rd (Rd.move rfl) rfl rfl ?_
        refine JQ.rd (Rd.nilCheck rfl) rfl rfl ?_
        refine JQ.rd (Rd.fld fd116_0 rfl) rfl rfl ?_
        refine JQ.rd (Rd.ld Tryd.underlying3 rfl rfl rfl) rfl rfl ?_
        refine JQ.rd (Rd.bin' rfl rfl rfl (fun _ => rfl)) rfl rfl ?_
        refine JQ.rd (Rd.move rfl) rfl rfl ?_
        refine JQ.bcase (fun hb6 => ?_) (fun hb6 => ?_)
        · skip
          refine JQ.rd (Rd.move rfl) rfl rfl ?_
          refine JQ.rd (Rd.nilCheck rfl) rfl rfl ?_
          refine JQ.rd (Rd.fld fd116_1 rfl) rfl rfl ?_
          refine JQ.rd (Rd.ld Tryd.underlying3 rfl rfl rfl) rfl rfl ?_
          refine JQ.rd (Rd.move rfl) rfl rfl ?_
          refine JQ.rd (Rd.nilCheck rfl) rfl rfl ?_
          refine JQ.rd (Rd.fld fd116_0 rfl) rfl rfl ?_
          refine JQ.rd (Rd.ld Tryd.underlying3 rfl rfl rfl) rfl rfl ?_
          refine JQ.rd (Rd.bin' rfl rfl rfl (fun _ => rfl)) rfl rfl ?_
          refine JQ.rd (Rd.pickT rfl rfl) rfl rfl ?_
          refine JQ.rd (Rd.assign rfl) rfl rfl ?_
          refine JQ.done ?_
          refine J.thenN ?_
          refine J.cond rfl (fun hb7 => ?_) (fun hb7 => ?_)
          · skip
            refine J.region ?_
            refine J.rd (Rd.move rfl) rfl rfl ?_
            refine J.rd (Rd.move rfl) rfl rfl ?_
            refine J.rd (Rd.move rfl) rfl rfl ?_
            refine J.rd (Rd.convI rfl Tryd.underlying5 Tryd.underlying3) rfl rfl ?_
            first | refine J.val (wI64 ⟨by omega, by omega⟩) ?_ | skip
            refine J.rd (Rd.bin' rfl rfl rfl (fun _ => rfl)) rfl rfl ?_
            first | refine J.val (wI64 ⟨by omega, by omega⟩) ?_ | skip
            refine J.val (show _ = Value.int .i64 ((c.toNat * 16 : Nat) : Int) from congrArg (Value.int .i64) (by omega)) ?_
            refine J.rd (Rd.nilCheck rfl) rfl rfl ?_
            refine J.rd (Rd.fld fd116_1 rfl) rfl rfl ?_
            refine J.sto ti3 rfl rfl rfl rfl ?_
            refine J.rd (Rd.nilCheck rfl) rfl rfl ?_
            refine J.rd (Rd.fld fd116_2 rfl) rfl rfl ?_
            refine J.sto ti3 rfl rfl rfl rfl ?_
            refine J.done ?_
            refine J.blockN ?_
            refine J.blockN ?_
            refine J.thenN ?_
            refine J.region ?_
            refine J.rd (Rd.bin' rfl rfl rfl (fun _ => rfl)) rfl rfl ?_
            first | refine J.val (wI64 ⟨by omega, by omega⟩) ?_ | skip
            refine J.rd (Rd.move rfl) rfl rfl ?_
            refine J.done ?_
            refine J.thenN ?_
            have hs : ptRun every ⟨n, left, block, true, []⟩ (data.take (k + 1)) = ⟨0, c.toNat * 16, block1, ok1, out1⟩ := by
              rw [ptRun_take hc, hS]
              simp only [ptStep]
              rw [if_neg (by simp at hb3; omega), if_pos ⟨by simp at hb6; omega, by simp at hb7; omega⟩]
            refine J.again (k, v, bv1, vs, Lp) (k + 1, v, bv1, vs, Lp) ?_ ?_ (fun w hw => ⟨⟨?_, ?_⟩, ?_⟩)
            · show data.length - (k + 1) < data.length - k; omega
            · simp only [hs]
              exact .cons rfl (.cons rfl (.cons rfl (.cons rfl (.cons rfl (.cons rfl .nil)))))
            · simp only; omega
            · simp only [hs]
              exact hq2
            · skip
              simp only [hs]
              exact hw
          · skip
            refine J.seq ?_
            refine J.region ?_
            refine J.rd (Rd.move rfl) rfl rfl ?_
            refine J.rd (Rd.nilCheck rfl) rfl rfl ?_
            refine J.rd (Rd.fld fd116_1 rfl) rfl rfl ?_
            refine J.rd (Rd.ld Tryd.underlying3 rfl rfl rfl) rfl rfl ?_
            refine J.rd (Rd.bin' rfl rfl rfl (fun _ => rfl)) rfl rfl ?_
            first | refine J.val (wI64 ⟨by omega, by omega⟩) ?_ | skip
            refine J.val (show _ = Value.int .i64 ((n1 + 1 : Nat) : Int) from congrArg (Value.int .i64) (by omega)) ?_
            refine J.rd (Rd.nilCheck rfl) rfl rfl ?_
            refine J.rd (Rd.fld fd116_1 rfl) rfl rfl ?_
            refine J.sto ti3 rfl rfl rfl rfl ?_
            refine J.done ?_
            refine J.thenN ?_
            refine J.region ?_
            refine J.rd (Rd.move rfl) rfl rfl ?_
            refine J.rd (Rd.move rfl) rfl rfl ?_
            refine J.call can56 rfl (fun w hC => sound_calls (c := c) (Lf := pts p (.cells [.int .i64 (every : Nat), .int .i64 ((n1 + 1) : Nat), .int .i64 (left1 : Nat), bv1].toArray 116 (0, 0)) :: own 5 1 bv1 block1.length (bytesV block1) :: Lf) hq2 (by omega) (by omega) (St.swapL hC)) rfl rfl (fun v29 => ?_)
            refine J.exC fun vs2 => J.exC fun L2 => J.andC fun hP2 => ?_
            refine J.rd (Rd.assign rfl) rfl rfl ?_
            refine J.done ?_
            refine J.blockN ?_
            refine J.blockN ?_
            refine J.thenN ?_
            refine J.region ?_
            refine J.rd (Rd.bin' rfl rfl rfl (fun _ => rfl)) rfl rfl ?_
            first | refine J.val (wI64 ⟨by omega, by omega⟩) ?_ | skip
            refine J.rd (Rd.move rfl) rfl rfl ?_
            refine J.done ?_
            refine J.thenN ?_
            have hs : ptRun every ⟨n, left, block, true, []⟩ (data.take (k + 1)) = ⟨n1 + 1, left1, block1, ok1, putS c out1⟩ := by
              rw [ptRun_take hc, hS]
              simp only [ptStep]
              rw [if_neg (by simp at hb3; omega), if_neg (by simp at hb7; omega)]
            refine J.again (k, v, bv1, vs, Lp) (k + 1, v29, bv1, vs2, L2) ?_ ?_ (fun w hw => ⟨⟨?_, ?_⟩, ?_⟩)
            · show data.length - (k + 1) < data.length - k; omega
            · simp only [hs]
              exact .cons rfl (.cons rfl (.cons rfl (.cons rfl (.cons rfl (.cons rfl .nil)))))
            · simp only; omega
            · simp only [hs]
              exact hP2
            · skip
              simp only [hs]
              exact St.swapR hw
        · skip
          refine JQ.pass rfl rfl ?_
          refine JQ.pass rfl rfl ?_
          refine JQ.pass rfl rfl ?_
          refine JQ.pass rfl rfl ?_
          refine JQ.pass rfl rfl ?_
          refine JQ.pass rfl rfl ?_
          refine JQ.pass rfl rfl ?_
          refine JQ.pass rfl rfl ?_
          refine JQ.pass rfl rfl ?_
          refine JQ.rd (Rd.pickF rfl rfl) rfl rfl ?_
          refine JQ.rd (Rd.assign rfl) rfl rfl ?_
          refine JQ.done ?_
          refine J.thenN ?_
          refine J.condF rfl ?_
          refine J.seq ?_
          refine J.region ?_
          refine J.rd (Rd.move rfl) rfl rfl ?_
          refine J.rd (Rd.nilCheck rfl) rfl rfl ?_
          refine J.rd (Rd.fld fd116_1 rfl) rfl rfl ?_
          refine J.rd (Rd.ld Tryd.underlying3 rfl rfl rfl) rfl rfl ?_
          refine J.rd (Rd.bin' rfl rfl rfl (fun _ => rfl)) rfl rfl ?_
          first | refine J.val (wI64 ⟨by omega, by omega⟩) ?_ | skip
          refine J.val (show _ = Value.int .i64 ((n1 + 1 : Nat) : Int) from congrArg (Value.int .i64) (by omega)) ?_
          refine J.rd (Rd.nilCheck rfl) rfl rfl ?_
          refine J.rd (Rd.fld fd116_1 rfl) rfl rfl ?_
          refine J.sto ti3 rfl rfl rfl rfl ?_
          refine J.done ?_
          refine J.thenN ?_
          refine J.region ?_
          refine J.rd (Rd.move rfl) rfl rfl ?_
          refine J.rd (Rd.move rfl) rfl rfl ?_
          refine J.call can56 rfl (fun w hC => sound_calls (c := c) (Lf := pts p (.cells [.int .i64 (every : Nat), .int .i64 ((n1 + 1) : Nat), .int .i64 (left1 : Nat), bv1].toArray 116 (0, 0)) :: own 5 1 bv1 block1.length (bytesV block1) :: Lf) hq2 (by omega) (by omega) (St.swapL hC)) rfl rfl (fun v29 => ?_)
          refine J.exC fun vs2 => J.exC fun L2 => J.andC fun hP2 => ?_
          refine J.rd (Rd.assign rfl) rfl rfl ?_
          refine J.done ?_
          refine J.blockN ?_
          refine J.blockN ?_
          refine J.thenN ?_
          refine J.region ?_
          refine J.rd (Rd.bin' rfl rfl rfl (fun _ => rfl)) rfl rfl ?_
          first | refine J.val (wI64 ⟨by omega, by omega⟩) ?_ | skip
          refine J.rd (Rd.move rfl) rfl rfl ?_
          refine J.done ?_
          refine J.thenN ?_
          have hs : ptRun every ⟨n, left, block, true, []⟩ (data.take (k + 1)) = ⟨n1 + 1, left1, block1, ok1, putS c out1⟩ := by
            rw [ptRun_take hc, hS]
            simp only [ptStep]
            rw [if_neg (by simp at hb3; omega), if_neg (by simp at hb6; omega)]
          refine J.again (k, v, bv1, vs, Lp) (k + 1, v29, bv1, vs2, L2) ?_ ?_ (fun w hw => ⟨⟨?_, ?_⟩, ?_⟩)
          · show data.length - (k + 1) < data.length - k; omega
          · simp only [hs]
            exact .cons rfl (.cons rfl (.cons rfl (.cons rfl (.cons rfl (.cons rfl .nil)))))
          · simp only; omega
          · simp only [hs]
            exact hP2
          · skip
            simp only [hs]
            exact St.swapR hw
    · skip
      refine J.exit ?_
      refine J.thenE ?_
      refine J.thenE ?_
      refine J.blockE ?_
      refine J.thenN ?_
      refine J.seq ?_
      refine J.region ?_
      refine J.rd (Rd.move rfl) rfl rfl ?_
      refine J.rd (Rd.move rfl) rfl rfl ?_
      refine J.rd (Rd.assign rfl) rfl rfl ?_
      refine J.rd (Rd.assign rfl) rfl rfl ?_
      refine J.done ?_
      refine J.thenN ?_
      refine J.ret ?_
      refine J.leave2 (.inr rfl) rfl rfl rfl (fun w' hC => ?_)
      have hall : data.take k = data := List.take_of_length_le (by simp [length_bytesV] at hb2; omega)
      rw [hall] at hS
      refine ⟨v, bv1, vs, Lp, ?_, ?_, ?_⟩
      · rw [hS]
      · rw [hS]; exact hq2
      · simp only [hS]; exact hC

/-- Pieces (the last first) that may be read wherever these parts are. -/
def PcsAt (Z : World) (Lf : List HP) (v : Value) (ps : List Pc) : Prop := ∃ vs : List Value, vs.length = ps.length ∧ (∀ w, St Z w Lf → SlR w v vs) ∧ ∀ k, k < ps.length → ∃ T x, vs[k]? = some (.iface T x) ∧
  ((T = 54 ∧ ∃ t, ps[ps.length - 1 - k]? = some (.told t) ∧ x = .string ⟨t.toArray⟩) ∨ (T = 120 ∧ ∃ l, ps[ps.length - 1 - k]? = some (.snd l) ∧ ∀ w, St Z w Lf → SlR w x (bytesV l)))
theorem PcsR.at_ {Z : World} {Lf R : List HP} {v : Value} {ps vs L} (h : PcsR ps vs L) (hd : ∀ w, St Z w Lf → St Z w (own 53 1 v vs.length vs :: (L ++ R))) : PcsAt Z Lf v ps := by
  refine ⟨vs, h.len, fun w hw => SlR_own1 (hd w hw), fun k hk => ?_⟩
  rcases h.get k (by rw [h.len]; exact hk) with ⟨t, h1, h2⟩ | ⟨l, sv, i, h1, h2, h3⟩
  · exact ⟨_, _, h2, .inl ⟨rfl, t, h1, rfl⟩⟩
  · exact ⟨_, _, h2, .inr ⟨rfl, l, h1, fun w hw => SlR_at (i := i) (hd w hw).drop0 (by rw [List.getElem?_append_left (List.getElem?_eq_some_iff.1 h3).1]; exact h3)⟩⟩

theorem Bytes_calls {Z w : World} {Lf : List HP} {v : Value} {ps : List Pc} (h : PcsAt Z Lf v ps) (hb : ps.length ≤ 500000) (hs : (soundOf ps).length ≤ 1000000) (hst : St Z w Lf) : Calls Tryd.prog 29 #[v] w (Ret fun r w' => St Z w' (own 5 1 r (soundOf ps).length (bytesV (soundOf ps)) :: Lf)) := by
  refine J.enter (N := 25) (l := [v]) (C := Sto Z Lf) Tryd.func29 rfl Tryd.ntmps29 (by simp) (hst) ?_
  obtain ⟨vs, hvl, hsl, hat⟩ := h
  refine J.seq ?_
  refine J.region ?_
  refine J.rd (Rd.assign rfl) rfl rfl ?_
  refine J.done ?_
  refine J.thenN ?_
  refine J.seq ?_
  refine J.region ?_
  refine J.rd (Rd.assign rfl) rfl rfl ?_
  refine J.done ?_
  refine J.thenN ?_
  refine J.seq ?_
  refine J.seq ?_
  refine J.region ?_
  refine J.rd (Rd.move rfl) rfl rfl ?_
  refine J.rd (Rd.lenR Tryd.underlying48 rfl (fun w hw => hsl w hw) rfl) rfl rfl ?_
  refine J.rd (Rd.move rfl) rfl rfl ?_
  refine J.done ?_
  refine J.thenN ?_
  refine J.block ?_
  refine J.loop (σ := Nat × Value) (fun q => vs.length - q.1) (fun q => [(8, v), (9, .int .i64 (vs.length : Nat)), (10, .int .i64 (q.1 : Int)), (3, q.2)])
    (fun q w => q.1 ≤ vs.length ∧ St Z w (own 5 1 q.2 (soundOf (ps.drop (ps.length - q.1))).length (bytesV (soundOf (ps.drop (ps.length - q.1)))) :: Lf)) (0, .slice none 0 0) (.cons rfl (.cons rfl (.cons rfl (.cons rfl .nil)))) (fun w hw => ⟨Nat.zero_le _, by
      simp only [Nat.sub_zero, List.drop_length]
      exact St.ownNil 5 1 hw⟩) ?_
  rintro ⟨k, o⟩
  refine J.andC fun hk => ?_
  simp only at hk
  simp only
  generalize hso : soundOf (ps.drop (ps.length - k)) = so
  refine J.seq ?_
  refine J.region ?_
  refine J.rd (Rd.bin' rfl rfl rfl (fun _ => rfl)) rfl rfl ?_
  refine J.done ?_
  refine J.thenN ?_
  refine J.seq ?_
  refine J.cond rfl (fun hb1 => ?_) (fun hb1 => ?_)
  · skip
    refine J.skip ?_
    refine J.thenN ?_
    refine J.seq ?_
    refine J.block ?_
    refine J.seq ?_
    have hlt : k < vs.length := by simp at hb1; omega
    obtain ⟨T, x, hTx, hcase⟩ := hat k (by omega)
    refine J.region ?_
    refine J.idxR ti53 Tryd.underlying48 rfl rfl (fun w hw => hsl w hw.drop0) hTx rfl rfl (fun ad12 had12 => ?_)
    refine J.rd (Rd.load rfl Tryd.underlying53 rfl (had12)) rfl rfl ?_
    refine J.rd (Rd.assign rfl) rfl rfl ?_
    refine J.done ?_
    refine J.thenN ?_
    refine J.seq ?_
    refine J.region ?_
    refine J.rd (Rd.move rfl) rfl rfl ?_
    refine J.rd (Rd.assertD Tryd.underlying120 rfl ti120 rfl) rfl rfl ?_
    refine J.rd (Rd.move rfl) rfl rfl ?_
    refine J.rd (Rd.extractL rfl) rfl rfl ?_
    refine J.rd (Rd.extractL rfl) rfl rfl ?_
    refine J.rd (Rd.assign rfl) rfl rfl ?_
    refine J.rd (Rd.assign rfl) rfl rfl ?_
    refine J.done ?_
    refine J.thenN ?_
    refine J.seq ?_
    refine J.region ?_
    refine J.rd (Rd.move rfl) rfl rfl ?_
    refine J.done ?_
    refine J.thenN ?_
    refine J.cond rfl (fun hb2 => ?_) (fun hb2 => ?_)
    · skip
      have hT2 : T = 120 := by simpa using hb2
      obtain ⟨_, l, hp, hx⟩ : T = 120 ∧ ∃ l, ps[ps.length - 1 - k]? = some (.snd l) ∧ ∀ w, St Z w Lf → SlR w x (bytesV l) := by
        rcases hcase with ⟨h1, _⟩ | h1
        · rw [hT2] at h1; exact absurd h1 (by decide)
        · exact h1
      have hd : ps.drop (ps.length - (k + 1)) = .snd l :: ps.drop (ps.length - k) := by
        rw [show ps.length - (k + 1) = ps.length - 1 - k by omega, drop_get hp, show ps.length - 1 - k + 1 = ps.length - k by omega]
      have hsl2 : so.length + l.length ≤ 1000000 := by
        have h1 := soundOf_drop ps (ps.length - (k + 1))
        rw [hd, soundOf, hso, List.length_append] at h1
        omega
      simp only [if_pos hT2]
      refine J.region ?_
      refine J.rd (Rd.move rfl) rfl rfl ?_
      refine J.rd (Rd.move rfl) rfl rfl ?_
      refine J.app (m := l.length) ti5 Tryd.underlying27 Tryd.underlying120 (.inl ⟨_, rfl⟩) rfl rfl (fun w hw => Src.slRB (hx w hw.drop0)) (one_bytesV _) (by omega) (by omega) rfl (by omega) rfl rfl (fun b22 c22 => ?_)
      refine J.rd (Rd.assign rfl) rfl rfl ?_
      refine J.done ?_
      refine J.blockN ?_
      refine J.thenN ?_
      refine J.region ?_
      refine J.rd (Rd.bin' rfl rfl rfl (fun _ => rfl)) rfl rfl ?_
      first | refine J.val (wI64 ⟨by omega, by omega⟩) ?_ | skip
      refine J.rd (Rd.move rfl) rfl rfl ?_
      refine J.done ?_
      refine J.thenN ?_
      refine J.again (k, o) (k + 1, .slice b22 (so.length + l.length) c22) (by show vs.length - (k + 1) < vs.length - k; omega) (.cons rfl (.cons rfl (.cons rfl (.cons rfl .nil)))) (fun w hw => ⟨by simp only; omega, ?_⟩)
      simp only [hd, soundOf, hso, List.length_append, bytesV_append]
      exact hw
    · skip
      have hT2 : ¬ T = 120 := by simpa using hb2
      obtain ⟨_, t, hp, _⟩ : T = 54 ∧ ∃ t, ps[ps.length - 1 - k]? = some (.told t) ∧ x = .string ⟨t.toArray⟩ := by
        rcases hcase with h1 | ⟨h1, _⟩
        · exact h1
        · exact absurd h1 hT2
      have hd : ps.drop (ps.length - (k + 1)) = .told t :: ps.drop (ps.length - k) := by
        rw [show ps.length - (k + 1) = ps.length - 1 - k by omega, drop_get hp, show ps.length - 1 - k + 1 = ps.length - k by omega]
      refine J.skip ?_
      refine J.blockN ?_
      refine J.thenN ?_
      refine J.region ?_
      refine J.rd (Rd.bin' rfl rfl rfl (fun _ => rfl)) rfl rfl ?_
      first | refine J.val (wI64 ⟨by omega, by omega⟩) ?_ | skip
      refine J.rd (Rd.move rfl) rfl rfl ?_
      refine J.done ?_
      refine J.thenN ?_
      refine J.again (k, o) (k + 1, o) (by show vs.length - (k + 1) < vs.length - k; omega) (.cons rfl (.cons rfl (.cons rfl (.cons rfl .nil)))) (fun w hw => ⟨by simp only; omega, ?_⟩)
      simp only [hd, soundOf, hso]
      exact hw
  · skip
    refine J.exit ?_
    refine J.thenE ?_
    refine J.thenE ?_
    refine J.blockE ?_
    refine J.thenN ?_
    refine J.seq ?_
    refine J.region ?_
    refine J.rd (Rd.move rfl) rfl rfl ?_
    refine J.rd (Rd.assign rfl) rfl rfl ?_
    refine J.done ?_
    refine J.thenN ?_
    refine J.ret ?_
    refine J.leave1 (.inr rfl) rfl rfl (fun w' hC => ?_)
    have e : ps.length - k = 0 := by simp at hb1; omega
    rw [e, List.drop_zero] at hso
    subst hso
    exact hC

theorem First_calls {Z w : World} {Lf : List HP} {v : Value} {ps : List Pc} {t : List UInt8} (h : PcsAt Z Lf v ps) (ht : ps[ps.length - 1]? = some (.told t)) (hst : St Z w Lf) : Calls Tryd.prog 32 #[v] w (Ret fun r w' => r = .string ⟨t.toArray⟩ ∧ St Z w' Lf) := by
  refine J.enter (N := 7) (l := [v]) (C := Sto Z Lf) Tryd.func32 rfl Tryd.ntmps32 (by simp) (hst) ?_
  obtain ⟨vs, hvl, hsl, hat⟩ := h
  have hpos : 0 < ps.length := by have := (List.getElem?_eq_some_iff.1 ht).1; omega
  obtain ⟨T, x, hTx, hcase⟩ := hat 0 hpos
  rw [Nat.sub_zero, ht] at hcase
  obtain ⟨rfl, rfl⟩ : T = 54 ∧ x = .string ⟨t.toArray⟩ := by
    rcases hcase with ⟨h1, t', h2, h3⟩ | ⟨h1, l, h2, _⟩
    · injection h2 with h2; injection h2 with h2; subst h2; exact ⟨h1, h3⟩
    · injection h2 with h2; cases h2
  refine J.seq ?_
  refine J.region ?_
  refine J.rd (Rd.assign rfl) rfl rfl ?_
  refine J.done ?_
  refine J.thenN ?_
  refine J.seq ?_
  refine J.region ?_
  refine J.rd (Rd.move rfl) rfl rfl ?_
  refine J.idxR ti53 Tryd.underlying48 rfl rfl hsl hTx rfl rfl (fun ad4 had4 => ?_)
  refine J.rd (Rd.load rfl Tryd.underlying53 rfl (had4)) rfl rfl ?_
  refine J.rd (Rd.assertV Tryd.underlying54 rfl rfl) rfl rfl ?_
  refine J.rd (Rd.assign rfl) rfl rfl ?_
  refine J.done ?_
  refine J.thenN ?_
  refine J.ret ?_
  refine J.leave1 (.inr rfl) rfl rfl (fun w' hC => ?_)
  exact ⟨rfl, hC⟩
end Go.Proofs.YtdpfdpmjnifanaaDoor.Part
