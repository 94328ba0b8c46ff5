/- law20's fits, WeaveAgain. -/
import Derived.Test.YtdpfdpmjnifanaaDoorProg
import Derived.KernelRfl
import Derived.Test.YtdpfdpmjnifanaaDoorPart
import Derived.Test.YtdpfdpmjnifanaaDoorWargs
import Derived.Test.YtdpfdpmjnifanaaDoorActRows
namespace Go.Proofs.YtdpfdpmjnifanaaDoor.Wagain
open Go Go.RowKit Go.Sb
set_option maxRecDepth 100000
set_option linter.unusedVariables false
set_option linter.unusedSimpArgs false
theorem mixed : Tryd.prog.follows .mixedOrders = true := by kernel_rfl
theorem ti4 : TI Tryd.prog 4 1 1 (.bool false) := TI.of (by kernel_rfl)
theorem ti5 : TI Tryd.prog 5 1 1 (.int .u8 0) := TI.of (by kernel_rfl)
theorem ti45 : TI Tryd.prog 45 3 48 (.agg #[.bool false, .string .empty, .slice none 0 0]) := TI.of (by kernel_rfl)
theorem ti53 : TI Tryd.prog 53 1 16 (.nilIface) := TI.of (by kernel_rfl)
theorem ti54 : TI Tryd.prog 54 1 16 (.string .empty) := TI.of (by kernel_rfl)
theorem fd45_0 : FD Tryd.prog 45 0 0 := FD.of Tryd.underlying45 (by kernel_rfl)
theorem fd45_1 : FD Tryd.prog 45 1 1 := FD.of Tryd.underlying45 (by kernel_rfl)
theorem fd45_2 : FD Tryd.prog 45 2 2 := FD.of Tryd.underlying45 (by kernel_rfl)
theorem can21 : Callable Tryd.prog 21 := ⟨Tryd.f21, Tryd.func21, by kernel_rfl, by kernel_rfl⟩
theorem can22 : Callable Tryd.prog 22 := ⟨Tryd.f22, Tryd.func22, by kernel_rfl, by kernel_rfl⟩
theorem can23 : Callable Tryd.prog 23 := ⟨Tryd.f23, Tryd.func23, by kernel_rfl, by kernel_rfl⟩
theorem can24 : Callable Tryd.prog 24 := ⟨Tryd.f24, Tryd.func24, by kernel_rfl, by kernel_rfl⟩
theorem can25 : Callable Tryd.prog 25 := ⟨Tryd.f25, Tryd.func25, by kernel_rfl, by kernel_rfl⟩
theorem can26 : Callable Tryd.prog 26 := ⟨Tryd.f26, Tryd.func26, by kernel_rfl, by kernel_rfl⟩
theorem can27 : Callable Tryd.prog 27 := ⟨Tryd.f27, Tryd.func27, by kernel_rfl, by kernel_rfl⟩
theorem can28 : Callable Tryd.prog 28 := ⟨Tryd.f28, Tryd.func28, by kernel_rfl, by kernel_rfl⟩
theorem can29 : Callable Tryd.prog 29 := ⟨Tryd.f29, Tryd.func29, by kernel_rfl, by kernel_rfl⟩

theorem fits_calls {Z w : World} {Lf : List HP} {lv : Value} {acts : List (Bool × ByteArray × Value × List UInt8)} {us : List Value} (hl : acts.length ≤ 9223372036854775807) (hS : ∀ w, St Z w Lf → SlS w lv acts.length us)
    (hA : ∀ (k : Nat) (a : Bool × ByteArray × Value × List UInt8), acts[k]? = some a → us[k * 3 + 0]? = some (.bool a.1) ∧ us[k * 3 + 1]? = some (.string a.2.1) ∧ us[k * 3 + 2]? = some a.2.2.1 ∧ ∀ w, St Z w Lf → SlR w a.2.2.1 (bytesV a.2.2.2)) (hst : St Z w Lf) : Calls Tryd.prog 22 #[lv] w (Ret fun r w' => ∃ b, r = .bool b ∧ (b = true → acts.length ≤ 40 ∧ ∀ (k : Nat) (a : Bool × ByteArray × Value × List UInt8), acts[k]? = some a → a.2.1.size ≤ 200 ∧ a.2.2.2.length ≤ 300) ∧ St Z w' Lf) := by
  refine J.enter (N := 25) (l := [lv]) (C := Sto Z Lf) Tryd.func22 rfl Tryd.ntmps22 (by simp) (hst) ?_
  obtain ⟨la, lc, rfl⟩ : ∃ a c, lv = .slice a acts.length c := by obtain ⟨a, c, e, _⟩ := hS w hst; exact ⟨a, c, e⟩
  refine J.seq ?_
  refine J.region ?_
  refine J.rd (Rd.assign rfl) rfl rfl ?_
  refine J.done ?_
  refine J.thenN ?_
  refine J.seq ?_
  refine J.seq ?_
  refine J.region ?_
  refine J.rd (Rd.move rfl) rfl rfl ?_
  refine J.rd (Rd.lenSl rfl rfl Tryd.underlying34) rfl rfl ?_
  refine J.rd (Rd.move rfl) rfl rfl ?_
  refine J.done ?_
  refine J.thenN ?_
  refine J.block ?_
  refine J.loop (σ := Nat) (fun k => acts.length - k) (fun k => [(0, .slice la acts.length lc), (5, .slice la acts.length lc), (6, .int .i64 (acts.length : Nat)), (7, .int .i64 (k : Int))])
    (fun k w => (k ≤ acts.length ∧ ∀ (j : Nat) (a : Bool × ByteArray × Value × List UInt8), j < k → acts[j]? = some a → a.2.1.size ≤ 200 ∧ a.2.2.2.length ≤ 300) ∧ St Z w Lf) 0 (.cons rfl (.cons rfl (.cons rfl (.cons rfl .nil)))) (fun w hw => ⟨⟨Nat.zero_le _, fun j a hj => by omega⟩, hw⟩) ?_
  intro k
  refine J.andC fun hq => ?_
  obtain ⟨hk, hok⟩ := hq
  refine J.seq ?_
  refine J.region ?_
  refine J.rd (Rd.bin' rfl rfl rfl (fun _ => rfl)) rfl rfl ?_
  refine J.done ?_
  refine J.thenN ?_
  refine J.seq ?_
  refine J.cond rfl (fun hb1 => ?_) (fun hb1 => ?_)
  · skip
    refine J.skip ?_
    refine J.thenN ?_
    refine J.seq ?_
    refine J.block ?_
    refine J.seq ?_
    have hlt : k < acts.length := by simp at hb1; omega
    obtain ⟨⟨tb, ts, x, data⟩, ha⟩ : ∃ a, acts[k]? = some a := ⟨_, List.getElem?_eq_getElem hlt⟩
    obtain ⟨c0, c1, c2, hx⟩ := hA k _ ha
    simp only at c0 c1 c2 hx
    refine J.fact (fun w hw => (hx w (hw)).one) fun hx1 => ?_
    refine J.elemS (v := .slice la acts.length lc) (sz := 3) (fun w hw => hS w (hw)) c0 (fun gb o hadp hv0 hcells => ?_)
    refine J.region ?_
    refine J.rd (Rd.idxP ti45 Tryd.underlying34 hv0 rfl rfl (hlt) hadp) rfl rfl ?_
    refine J.rd (Rd.ldAggC (cs := [.bool tb, .string ts, x]) 3 Tryd.underlying45 rfl (by kernel_rfl) rfl rfl (fun w hw j u hj => hcells w hw j u (three_cells c0 c1 c2 j u hj))) rfl rfl ?_
    refine J.allocT ti45 rfl rfl rfl (fun b4 => ?_)
    refine J.stoAgg (by kernel_rfl) (by show (true && (true && (x.oneCell' && true))) = true; rw [hx1]; rfl) rfl rfl rfl ?_
    refine J.done ?_
    refine J.thenN ?_
    refine J.seq ?_
    refine J.region ?_
    refine J.rd (Rd.fld fd45_1 rfl) rfl rfl ?_
    refine J.rd (Rd.ld Tryd.underlying9 rfl rfl rfl) rfl rfl ?_
    refine J.rd (Rd.lenStr rfl rfl Tryd.underlying9) rfl rfl ?_
    refine J.rd (Rd.bin' rfl rfl rfl (fun _ => rfl)) rfl rfl ?_
    refine J.rd (Rd.move rfl) rfl rfl ?_
    refine J.bcase (fun hb2 => ?_) (fun hb2 => ?_)
    · skip
      refine J.pass rfl rfl ?_
      refine J.pass rfl rfl ?_
      refine J.pass rfl rfl ?_
      refine J.pass rfl rfl ?_
      refine J.rd (Rd.pickT rfl rfl) rfl rfl ?_
      refine J.done ?_
      refine J.thenN ?_
      refine J.condT rfl ?_
      refine J.seq ?_
      refine J.region ?_
      refine J.rd (Rd.assign rfl) rfl rfl ?_
      refine J.done ?_
      refine J.thenN ?_
      refine J.ret ?_
      refine J.blockR ?_
      refine J.thenR ?_
      refine J.thenR ?_
      refine J.blockR ?_
      refine J.thenR ?_
      refine J.leave1 (.inr rfl) rfl rfl (fun w' hC => ?_)
      first | exact ⟨false, rfl, (fun h => by cases h), St.sub hC⟩ | exact ⟨_, rfl, (fun h => ⟨by simp at h; omega, fun j a haj => hok j a (by have h5 : j < acts.length := (List.getElem?_eq_some_iff.1 haj).1; simp at hb1; omega) haj⟩), hC⟩
    · skip
      refine J.rd (Rd.fld fd45_2 rfl) rfl rfl ?_
      refine J.rd (Rd.ld Tryd.underlying27 rfl rfl rfl) rfl rfl ?_
      refine J.rd (Rd.lenR Tryd.underlying27 rfl (fun w hw => hx w hw.drop0) rfl) rfl rfl ?_
      refine J.rd (Rd.bin' rfl rfl rfl (fun _ => rfl)) rfl rfl ?_
      refine J.rd (Rd.pickF rfl rfl) rfl rfl ?_
      refine J.done ?_
      refine J.thenN ?_
      refine J.cond rfl (fun hb3 => ?_) (fun hb3 => ?_)
      · skip
        refine J.seq ?_
        refine J.region ?_
        refine J.rd (Rd.assign rfl) rfl rfl ?_
        refine J.done ?_
        refine J.thenN ?_
        refine J.ret ?_
        refine J.blockR ?_
        refine J.thenR ?_
        refine J.thenR ?_
        refine J.blockR ?_
        refine J.thenR ?_
        refine J.leave1 (.inr rfl) rfl rfl (fun w' hC => ?_)
        first | exact ⟨false, rfl, (fun h => by cases h), St.sub hC⟩ | exact ⟨_, rfl, (fun h => ⟨by simp at h; omega, fun j a haj => hok j a (by have h5 : j < acts.length := (List.getElem?_eq_some_iff.1 haj).1; simp at hb1; omega) haj⟩), hC⟩
      · skip
        refine J.skip ?_
        refine J.blockN ?_
        refine J.thenN ?_
        refine J.region ?_
        refine J.rd (Rd.bin' rfl rfl rfl (fun _ => rfl)) rfl rfl ?_
        first | refine J.val (wI64 ⟨by omega, by omega⟩) ?_ | skip
        refine J.rd (Rd.move rfl) rfl rfl ?_
        refine J.done ?_
        refine J.thenN ?_
        exact J.again k (k + 1) (by show acts.length - (k + 1) < acts.length - k; omega) (.cons rfl (.cons rfl (.cons rfl (.cons rfl .nil)))) (fun w hw => ⟨⟨by omega, fun j a hj haj => by
          rcases Nat.lt_or_ge j k with h | h
          · exact hok j a h haj
          · obtain rfl : j = k := by omega
            rw [ha] at haj
            obtain rfl := Option.some.inj haj
            simp only [length_bytesV] at hb3
            exact ⟨by simp at hb2; simp only; omega, by simp at hb3; simp only; omega⟩⟩, hw.drop0⟩)
  · skip
    refine J.exit ?_
    refine J.thenE ?_
    refine J.thenE ?_
    refine J.blockE ?_
    refine J.thenN ?_
    refine J.seq ?_
    refine J.region ?_
    refine J.rd (Rd.move rfl) rfl rfl ?_
    refine J.rd (Rd.lenSl rfl rfl Tryd.underlying34) rfl rfl ?_
    refine J.rd (Rd.bin' rfl rfl rfl (fun _ => rfl)) rfl rfl ?_
    refine J.rd (Rd.assign rfl) rfl rfl ?_
    refine J.done ?_
    refine J.thenN ?_
    refine J.ret ?_
    refine J.leave1 (.inr rfl) rfl rfl (fun w' hC => ?_)
    first | exact ⟨false, rfl, (fun h => by cases h), St.sub hC⟩ | exact ⟨_, rfl, (fun h => ⟨by simp at h; omega, fun j a haj => hok j a (by have h5 : j < acts.length := (List.getElem?_eq_some_iff.1 haj).1; simp at hb1; omega) haj⟩), hC⟩

open Part
theorem told_step {out : List Pc} {k : Nat} {pc : Pc} (hk : k < out.length) (hp : out[out.length - 1 - k]? = some pc) : (tolds (out.drop (out.length - (k + 1)))).length = (tolds (out.drop (out.length - k))).length + (match pc with | .told _ => 1 | .snd _ => 0) := by
  rw [show out.length - (k + 1) = out.length - 1 - k by omega, drop_get hp, show out.length - 1 - k + 1 = out.length - k by omega]
  cases pc <;> simp [tolds]
theorem told_mem {t : List UInt8} : ∀ {out : List Pc}, Pc.told t ∈ out → t ∈ tolds out
  | .told u :: ps, h => by
    rcases List.mem_cons.1 h with h | h
    · cases h; simp [tolds]
    · simp only [tolds, List.mem_cons]; exact .inr (told_mem h)
  | .snd u :: ps, h => by
    rcases List.mem_cons.1 h with h | h
    · cases h
    · simp only [tolds]; exact told_mem h
theorem tolds_drop (ps : List Pc) : ∀ k, (tolds (ps.drop k)).length ≤ (tolds ps).length := by
  induction ps with
  | nil => intro k; simp [tolds]
  | cons p ps ih =>
    intro k
    cases k with
    | zero => exact Nat.le_refl _
    | succ k =>
      have := ih k
      rw [List.drop_succ_cons]
      cases p <;> simp only [tolds, List.length_cons] <;> omega
theorem St.out6 {Z w : World} {A B D X c d e f g : HP} {L R : List HP} (h : St Z w (A :: B :: D :: (L ++ (X :: c :: d :: e :: f :: g :: R)))) : St Z w (A :: B :: D :: c :: d :: e :: f :: g :: (L ++ R)) := by
  have h2 : St Z w (A :: B :: D :: X :: c :: d :: e :: f :: g :: (L ++ R)) := h.perm (by
    have h1 : (L ++ ([X, c, d, e, f, g] ++ R)).Perm ([X, c, d, e, f, g] ++ (L ++ R)) := List.perm_append_comm_assoc _ _ _
    exact List.Perm.append_left [A, B, D] h1)
  exact St.sub h2
theorem St.mid7 {Z w : World} {a b c d e f g : HP} {M R : List HP} (h : St Z w (a :: b :: c :: d :: e :: f :: g :: (M ++ R))) : St Z w (a :: b :: c :: d :: e :: f :: g :: R) := St.mid [a, b, c, d, e, f, g] h

theorem WeaveAgain_calls {Z w : World} {Lf : List HP} {lv : Value} {acts : List (Bool × ByteArray × Value × List UInt8)} {us : List Value} (num : Int) (hT : ∀ w, St Z w Lf → Lib.Utf8Tabs 1 2 w) (hl : acts.length ≤ 9223372036854775807) (hS : ∀ w, St Z w Lf → SlS w lv acts.length us)
    (hA : ∀ (k : Nat) (a : Bool × ByteArray × Value × List UInt8), acts[k]? = some a → us[k * 3 + 0]? = some (.bool a.1) ∧ us[k * 3 + 1]? = some (.string a.2.1) ∧ us[k * 3 + 2]? = some a.2.2.1 ∧ ∀ w, St Z w Lf → SlR w a.2.2.1 (bytesV a.2.2.2)) (hst : St Z w Lf) : Calls Tryd.prog 5 #[.int .i64 num, lv] w (Ret fun r w' => r = .bool true ∧ St Z w' Lf) := by
  refine J.enter (N := 128) (l := [.int .i64 num, lv]) (C := Sto Z Lf) Tryd.func5 rfl Tryd.ntmps5 (by simp) (hst) ?_
  obtain ⟨la, lc, rfl⟩ : ∃ a c, lv = .slice a acts.length c := by obtain ⟨a, c, e, _⟩ := hS w hst; exact ⟨a, c, e⟩
  refine J.seq ?_
  refine J.region ?_
  refine J.rd (Rd.assign rfl) rfl rfl ?_
  refine J.done ?_
  refine J.thenN ?_
  refine J.seq ?_
  refine J.seq ?_
  refine J.region ?_
  refine J.call can21 rfl (fun w hC => Wargs.lives_calls hT hC) rfl rfl (fun v22 => ?_)
  refine J.andC fun hv22 => ?_
  subst hv22
  refine J.rd (Rd.un rfl (fun _ => rfl)) rfl rfl ?_
  refine J.rd (Rd.move rfl) rfl rfl ?_
  refine J.bcase (fun hb1 => ?_) (fun hb1 => ?_)
  · skip
    cases hb1
  · skip
    refine J.rd (Rd.move rfl) rfl rfl ?_
    refine J.call can22 rfl (fun w hC => fits_calls hl hS hA hC) rfl rfl (fun v26 => ?_)
    refine J.exC fun fb => J.andC fun hv26 => J.andC fun hfit => ?_
    subst hv26
    refine J.rd (Rd.un rfl (fun _ => rfl)) rfl rfl ?_
    refine J.rd (Rd.pickF rfl rfl) rfl rfl ?_
    refine J.done ?_
    refine J.thenN ?_
    refine J.cond rfl (fun hb2 => ?_) (fun hb2 => ?_)
    · skip
      refine J.seq ?_
      refine J.region ?_
      refine J.call can21 rfl (fun w hC => Wargs.lives_calls hT hC) rfl rfl (fun v29 => ?_)
      refine J.andC fun hv29 => ?_
      subst hv29
      refine J.rd (Rd.assign rfl) rfl rfl ?_
      refine J.done ?_
      refine J.thenN ?_
      refine J.ret ?_
      refine J.thenR ?_
      refine J.leave1 (.inr rfl) rfl rfl (fun w' hC => ?_)
      first | exact ⟨rfl, hC⟩ | exact ⟨rfl, St.sub hC⟩ | exact ⟨by simp at hb18; rw [i8 (by omega)]; rfl, St.sub hC⟩
    · skip
      have hf := hfit (by simpa using hb2)
      refine J.skip ?_
      refine J.thenN ?_
      refine J.seq ?_
      refine J.region ?_
      refine J.rd (Rd.move rfl) rfl rfl ?_
      refine J.rd (Rd.convI rfl Tryd.underlying3 Tryd.underlying36) rfl rfl ?_
      first | refine J.val (wU64 ⟨by omega, by omega⟩) ?_ | skip
      rw [IntKind.wrap_u64]
      refine J.rd (Rd.rem rfl rfl (by first | decide | omega)) rfl rfl ?_
      first | refine J.val (wR (by omega) _) ?_ | skip
      refine J.rd (Rd.convI rfl Tryd.underlying36 Tryd.underlying3) rfl rfl ?_
      first | refine J.val (wI64 ⟨by omega, by omega⟩) ?_ | skip
      obtain ⟨ev, hev⟩ : ∃ ev : Nat, num % 18446744073709551616 % 70 = (ev : Int) := ⟨(num % 18446744073709551616 % 70).toNat, by omega⟩
      have hev70 : ev < 70 := by omega
      refine J.val (show _ = Value.int .i64 (ev : Int) from congrArg (Value.int .i64) hev) ?_
      refine J.rd (Rd.assign rfl) rfl rfl ?_
      refine J.done ?_
      refine J.thenN ?_
      refine J.seq ?_
      refine J.region ?_
      refine J.rd (Rd.move rfl) rfl rfl ?_
      refine J.call can23 rfl (fun w hC => Block.New_calls (ev : Int) (by omega) (by omega) hC) rfl rfl (fun v36 => ?_)
      refine J.exC fun pw => ?_
      refine J.andC fun hv36 => ?_
      subst hv36
      refine J.rd (Rd.move rfl) rfl rfl ?_
      refine J.rd (Rd.extractL rfl) rfl rfl ?_
      refine J.rd (Rd.extractL rfl) rfl rfl ?_
      refine J.rd (Rd.assign rfl) rfl rfl ?_
      refine J.rd (Rd.assign rfl) rfl rfl ?_
      refine J.done ?_
      refine J.thenN ?_
      refine J.seq ?_
      refine J.region ?_
      refine J.rd (Rd.move rfl) rfl rfl ?_
      refine J.call can24 rfl (fun w hC => Block.NewParter_calls (ev : Int) (by omega) (by omega) hC) rfl rfl (fun v41 => ?_)
      refine J.exC fun pp => ?_
      refine J.andC fun hv41 => ?_
      subst hv41
      refine J.rd (Rd.move rfl) rfl rfl ?_
      refine J.rd (Rd.extractL rfl) rfl rfl ?_
      refine J.rd (Rd.extractL rfl) rfl rfl ?_
      refine J.rd (Rd.assign rfl) rfl rfl ?_
      refine J.rd (Rd.assign rfl) rfl rfl ?_
      refine J.done ?_
      refine J.thenN ?_
      refine J.seq ?_
      refine J.seq ?_
      refine J.region ?_
      refine J.rd (Rd.move rfl) rfl rfl ?_
      refine J.rd (Rd.bin' rfl rfl rfl (fun _ => rfl)) rfl rfl ?_
      refine J.rd (Rd.move rfl) rfl rfl ?_
      refine J.bcase (fun hb3 => ?_) (fun hb3 => ?_)
      · skip
        cases hb3
      · skip
        refine J.rd (Rd.move rfl) rfl rfl ?_
        refine J.rd (Rd.bin' rfl rfl rfl (fun _ => rfl)) rfl rfl ?_
        refine J.rd (Rd.pickF rfl rfl) rfl rfl ?_
        refine J.done ?_
        refine J.thenN ?_
        refine J.cond rfl (fun hb4 => ?_) (fun hb4 => ?_)
        · skip
          cases hb4
        · skip
          refine J.skip ?_
          refine J.thenN ?_
          refine J.seq ?_
          refine J.region ?_
          refine J.rd (Rd.assign rfl) rfl rfl ?_
          refine J.rd (Rd.assign rfl) rfl rfl ?_
          refine J.done ?_
          refine J.thenN ?_
          refine J.seq ?_
          refine J.region ?_
          refine J.makeMap keyStr rfl rfl (fun b50 => ?_)
          refine J.rd (Rd.assign rfl) rfl rfl ?_
          refine J.rd (Rd.assign rfl) rfl rfl ?_
          refine J.done ?_
          refine J.thenN ?_
          refine J.seq ?_
          refine J.seq ?_
          refine J.region ?_
          refine J.rd (Rd.move rfl) rfl rfl ?_
          refine J.rd (Rd.lenSl rfl rfl Tryd.underlying34) rfl rfl ?_
          refine J.rd (Rd.move rfl) rfl rfl ?_
          refine J.done ?_
          refine J.thenN ?_
          refine J.block ?_
          refine J.loop (σ := (Nat × Nat × ByteArray × Bool) × (Value × Value × Value) × (List UInt8 × List (List UInt8 × Value) × Nat)) (fun q => acts.length - q.1.1) (fun q => [(1, .slice la acts.length lc), (5, .int .i64 (ev : Nat)), (6, .pointer (some ⟨pw, 0, none⟩)), (8, .pointer (some ⟨pp, 0, none⟩)), (10, q.2.1.2.1), (11, q.2.1.2.2), (12, .map (some b50)), (13, .int .i64 (q.2.2.2.2 : Nat)), (51, .slice la acts.length lc), (52, .int .i64 (acts.length : Nat)), (53, .int .i64 (q.1.1 : Nat))])
            (fun q w => (q.1.1 ≤ acts.length ∧ (ev = 0 ∨ q.1.2.1 < ev) ∧ q.1.2.1 ≤ 300 * q.1.1 ∧ q.1.2.2.1.size ≤ 1000 ∧ (q.1.2.2.2 = true → titleF q.1.2.2.1.data.toList = q.1.2.2.1.data.toList ∧ lookK q.2.2.2.1 (blockF q.1.2.2.1.data.toList) = some (.bool true)) ∧ q.2.2.1.length ≤ 300 * q.1.1 ∧ q.2.2.2.2 + (if q.1.2.2.2 then 1 else 0) ≤ q.1.1 ∧ (ev = 0 → q.2.2.2.2 = 0)) ∧ St Z w (pts pw (.cells [.int .i64 (ev : Nat), .int .i64 (q.1.2.1 : Nat), .string q.1.2.2.1, .bool q.1.2.2.2].toArray 114 (0, 0)) :: pts pp (.cells [.int .i64 (ev : Nat), .int .i64 (q.1.2.1 : Nat), .int .i64 (0 : Nat), q.2.1.1].toArray 116 (0, 0)) :: own 5 1 q.2.1.1 ([] : List UInt8).length (bytesV []) :: own 5 1 q.2.1.2.1 q.2.2.1.length (bytesV q.2.2.1) :: own 5 1 q.2.1.2.2 q.2.2.1.length (bytesV q.2.2.1) :: mp keyStr (.map (some b50)) q.2.2.2.1 :: Lf))
            ((0, 0, .empty, false), (.slice none 0 0, .slice none 0 0, .slice none 0 0), ([], [], 0)) (.cons rfl (.cons rfl (.cons rfl (.cons rfl (.cons rfl (.cons rfl (.cons rfl (.cons rfl (.cons rfl (.cons rfl (.cons rfl .nil))))))))))) (fun w hw => ⟨⟨Nat.zero_le _, by show ev = 0 ∨ 0 < ev; omega, by simp, by decide, (fun h => by cases h), by simp, by simp, fun _ => rfl⟩, by
              have h2 := St.ownNil 5 1 (St.ownNil 5 1 (St.ownNil 5 1 hw))
              simp only [List.length_nil, Part.bytesV_nil]
              exact St.sub h2⟩) ?_
          rintro ⟨⟨i, n, title, fresh⟩, ⟨bv, va, vh⟩, ⟨A, kvs, cnt⟩⟩
          refine J.andC fun hq => ?_
          obtain ⟨i1, i2, i3, i4, i5, i6, i7, i8⟩ := hq
          simp only at i1 i2 i3 i4 i5 i6 i7 i8
          simp only
          refine J.seq ?_
          refine J.region ?_
          refine J.rd (Rd.bin' rfl rfl rfl (fun _ => rfl)) rfl rfl ?_
          refine J.done ?_
          refine J.thenN ?_
          refine J.seq ?_
          refine J.cond rfl (fun hb5 => ?_) (fun hb5 => ?_)
          · skip
            refine J.skip ?_
            refine J.thenN ?_
            refine J.seq ?_
            refine J.block ?_
            refine J.seq ?_
            have hlt : i < acts.length := by simp at hb5; omega
            obtain ⟨⟨tb, ts, x, data⟩, ha⟩ : ∃ a, acts[i]? = some a := ⟨_, List.getElem?_eq_getElem hlt⟩
            obtain ⟨c0, c1, c2, hx⟩ := hA i _ ha
            simp only at c0 c1 c2 hx
            refine J.fact (fun w hw => (hx w (St.sub hw)).one) fun hx1 => ?_
            refine J.elemS (v := .slice la acts.length lc) (sz := 3) (fun w hw => hS w (St.sub hw)) c0 (fun gb o hadp hv0 hcells => ?_)
            obtain ⟨f1, f2⟩ := hf.2 i _ ha
            simp only at f1 f2
            have hn40 := hf.1
            refine J.region ?_
            refine J.rd (Rd.idxP ti45 Tryd.underlying34 hv0 rfl rfl (hlt) hadp) rfl rfl ?_
            refine J.rd (Rd.ldAggC (cs := [.bool tb, .string ts, x]) 3 Tryd.underlying45 rfl (by kernel_rfl) rfl rfl (fun w hw j u hj => hcells w hw j u (three_cells c0 c1 c2 j u hj))) rfl rfl ?_
            refine J.allocT ti45 rfl rfl rfl (fun b15 => ?_)
            refine J.stoAgg (by kernel_rfl) (by show (true && (true && (x.oneCell' && true))) = true; rw [hx1]; rfl) rfl rfl rfl ?_
            refine J.done ?_
            refine J.thenN ?_
            refine J.seq ?_
            refine J.seq ?_
            refine J.region ?_
            refine J.rd (Rd.fld fd45_0 rfl) rfl rfl ?_
            refine J.rd (Rd.ld Tryd.underlying4 rfl rfl rfl) rfl rfl ?_
            refine J.done ?_
            refine J.thenN ?_
            refine J.cond rfl (fun hb6 => ?_) (fun hb6 => ?_)
            · skip
              obtain ⟨T1, hT1⟩ : ∃ T : ByteArray, T = ⟨(titleF ts.data.toList).toArray⟩ := ⟨_, rfl⟩
              obtain ⟨fr1, hfr1⟩ : ∃ f : Bool, f = (if titleF ts.data.toList = title.data.toList then fresh else true) := ⟨_, rfl⟩
              obtain ⟨kv1, hkv1⟩ : ∃ l, l = setK kvs (blockF ts.data.toList) (Value.bool true) := ⟨_, rfl⟩
              have hTd : T1.data.toList = titleF ts.data.toList := by rw [hT1]
              have g1 : fr1 = true → titleF T1.data.toList = T1.data.toList ∧ lookK kv1 (blockF T1.data.toList) = some (.bool true) := fun _ => ⟨by rw [hTd, titleF_idem], by rw [hTd, blockF_title, hkv1, lookK_setK, if_pos rfl]⟩
              have g2 : T1.size ≤ 1000 := by have := titleF_le ts.data.toList; rw [hT1, bsize]; omega
              have g3 : cnt + (if fr1 then 1 else 0) ≤ i + 1 := by split at i7 <;> split <;> omega
              refine J.seq ?_
              refine J.region ?_
              refine J.rd (Rd.move rfl) rfl rfl ?_
              refine J.rd (Rd.fld fd45_1 rfl) rfl rfl ?_
              refine J.rd (Rd.ld Tryd.underlying9 rfl rfl rfl) rfl rfl ?_
              refine J.call can25 rfl (fun w hC => Block.WTitle_calls (every := (ev : Int)) (n := (n : Int)) (title := title) (fresh := fresh) (Lf := pts b15 (.cells [.bool tb, .string ts, x].toArray 45 (0, 0)) :: pts pp (.cells [.int .i64 (ev : Nat), .int .i64 (n : Nat), .int .i64 (0 : Nat), bv].toArray 116 (0, 0)) :: own 5 1 bv ([] : List UInt8).length (bytesV []) :: own 5 1 va A.length (bytesV A) :: own 5 1 vh A.length (bytesV A) :: mp keyStr (.map (some b50)) kvs :: Lf) ts (fun w hw => hT w (St.sub hw)) (by omega) (St.sub hC)) rfl rfl (fun v62 => ?_)
              rw [← hT1, ← hfr1]
              refine J.done ?_
              refine J.thenN ?_
              refine J.region ?_
              refine J.rd (Rd.move rfl) rfl rfl ?_
              refine J.rd (Rd.fld fd45_1 rfl) rfl rfl ?_
              refine J.rd (Rd.ld Tryd.underlying9 rfl rfl rfl) rfl rfl ?_
              refine J.call can26 rfl (fun w hC => Block.Block_calls ts (fun w hw => hT w (St.sub hw)) (by omega) hC) rfl rfl (fun v66 => ?_)
              refine J.rd (Rd.convBS Tryd.underlying27 Tryd.underlying9 rfl (fun w hw => SlR_own hw) Tryd.underlying5) rfl rfl ?_
              refine J.mapUpdate (blockF ts.data.toList) keyStr_of Tryd.underlying43 Tryd.underlying9 rfl rfl rfl rfl ?_
              refine J.done ?_
              refine J.thenN ?_
              refine J.seq ?_
              try rw [← hkv1]
              have hbl := Part.blockF_len T1.data.toList
              have hml : data.length * ((blockF T1.data.toList).length + 2) ≤ 300 * 83 := Nat.mul_le_mul (by omega) (by omega)
              have hwv := woven (every := ev) (n := n) (fresh := fr1) (title := T1.data.toList) (fun h => (g1 h).1) i2 data
              have hwn := wRun_n (every := (ev : Int)) (blk := blockF T1.data.toList) (fresh := fr1) (n := (n : Int)) (by omega) data
              refine J.region ?_
              refine J.rd (Rd.move rfl) rfl rfl ?_
              refine J.rd (Rd.move rfl) rfl rfl ?_
              refine J.rd (Rd.fld fd45_2 rfl) rfl rfl ?_
              refine J.rd (Rd.ld Tryd.underlying27 rfl rfl rfl) rfl rfl ?_
              refine J.call can28 rfl (fun w hC => Weave.weave_calls (every := (ev : Int)) (n := (n : Int)) (title := T1) (fresh := fr1) (data := data) (Lf := pts b15 (.cells [.bool tb, .string ts, x].toArray 45 (0, 0)) :: pts pp (.cells [.int .i64 (ev : Nat), .int .i64 (n : Nat), .int .i64 (0 : Nat), bv].toArray 116 (0, 0)) :: own 5 1 bv ([] : List UInt8).length (bytesV []) :: own 5 1 va A.length (bytesV A) :: own 5 1 vh A.length (bytesV A) :: mp keyStr (.map (some b50)) kv1 :: Lf) (blk := blockF T1.data.toList) (fun w hw => hT w (St.sub hw)) (fun w Lf h hs => Block.Block_calls T1 h (by omega) hs) (by omega) (fun w hw => hx w (St.sub hw)) (by omega) (by omega) (by omega) (St.sub hC)) rfl rfl (fun v73 => ?_)
              generalize hW : wRun (ev : Int) (blockF T1.data.toList) (n : Int) fr1 data = WW at hwv hwn
              obtain ⟨wo, wn, wf⟩ := WW
              simp only at hwn
              simp only [hW]
              obtain ⟨p1, p2, p3, p4, p5, p6, p7, p8, p9⟩ := hwv
              generalize hSS : ptRun ev ⟨n, 0, [], true, []⟩ wo = SS at p1 p2 p3 p4 p5 p6 p7 p8 p9
              obtain ⟨n1, left1, block1, ok, out⟩ := SS
              simp only at p1 p2 p3 p4 p5 p6 p7 p8 p9
              subst p1 p2 p3 p5
              refine J.call can27 rfl (fun w hC => Part.Part_calls (n := n) (bv := bv) (left := 0) (block := []) (data := wo) (Lf := own 5 1 v73 wo.length (bytesV wo) :: pts b15 (.cells [.bool tb, .string ts, x].toArray 45 (0, 0)) :: pts pw (.cells [.int .i64 (ev : Nat), .int .i64 (n1 : Nat), .string T1, .bool wf].toArray 114 (0, 0)) :: own 5 1 va A.length (bytesV A) :: own 5 1 vh A.length (bytesV A) :: mp keyStr (.map (some b50)) kv1 :: Lf) ev (fun w hw => hT w (St.sub hw)) (fun w hw => SlR_own hw) (by omega) (by omega) (by simp) (fun _ => rfl) (St.sub hC)) rfl rfl (fun v74 => ?_)
              refine J.exC fun v1 => J.exC fun bv' => J.exC fun vs1 => J.exC fun L1 => J.andC fun hv74 => J.andC fun hP => ?_
              subst hv74
              rw [hSS] at hP
              simp only at hP
              simp only [hSS]
              have hok := Part.pt_ok (every := ev) (n := n) (s := ⟨n, 0, [], true, []⟩) ⟨Nat.le_refl _, by simp, fun _ => rfl, by simp, by simp [soundOf]⟩ wo
              rw [hSS] at hok
              obtain ⟨o1, o2, o3, o4, o5⟩ := hok
              simp only at o1 o2 o3 o4 o5
              refine J.conv (C' := Sto Z (own 53 1 v1 vs1.length vs1 :: pts pp (.cells [.int .i64 (ev : Nat), .int .i64 (n1 : Nat), .int .i64 (0 : Nat), bv'].toArray 116 (0, 0)) :: own 5 1 bv' ([] : List UInt8).length (bytesV []) :: pts b15 (.cells [.bool tb, .string ts, x].toArray 45 (0, 0)) :: pts pw (.cells [.int .i64 (ev : Nat), .int .i64 (n1 : Nat), .string T1, .bool wf].toArray 114 (0, 0)) :: own 5 1 va A.length (bytesV A) :: own 5 1 vh A.length (bytesV A) :: mp keyStr (.map (some b50)) kv1 :: (L1 ++ Lf))) (fun w hw => St.out6 hw) ?_
              refine J.rd (Rd.move rfl) rfl rfl ?_
              refine J.rd (Rd.extractL rfl) rfl rfl ?_
              refine J.rd (Rd.extractL rfl) rfl rfl ?_
              refine J.rd (Rd.assign rfl) rfl rfl ?_
              refine J.rd (Rd.assign rfl) rfl rfl ?_
              refine J.done ?_
              refine J.thenN ?_
              refine J.seq ?_
              refine J.region ?_
              refine J.rd (Rd.move rfl) rfl rfl ?_
              refine J.rd (Rd.fld fd45_2 rfl) rfl rfl ?_
              refine J.rd (Rd.ld Tryd.underlying27 rfl rfl rfl) rfl rfl ?_
              refine J.app (m := data.length) ti5 Tryd.underlying27 Tryd.underlying27 (.inl ⟨_, rfl⟩) rfl rfl (fun w hw => Src.slRB (hx w (St.offL (L := L1) (St.sub hw)))) (one_bytesV _) (by omega) (by omega) rfl (by omega) rfl rfl (fun b80 c80 => ?_)
              refine J.rd (Rd.assign rfl) rfl rfl ?_
              refine J.done ?_
              refine J.thenN ?_
              refine J.seq ?_
              refine J.region ?_
              refine J.rd (Rd.move rfl) rfl rfl ?_
              refine J.rd (Rd.move rfl) rfl rfl ?_
              refine J.call can29 rfl (fun w hC => Part.Bytes_calls (hP.at_ (R := Lf) (fun w hw => by exact St.sub hw)) (by omega) (by omega) hC) rfl rfl (fun v83 => ?_)
              refine J.app (m := (soundOf out).length) ti5 Tryd.underlying27 Tryd.underlying27 (.inl ⟨_, rfl⟩) rfl rfl (fun w hw => Src_own hw) (by simp [bytesV, Value.oneCell']) (by omega) (by omega) rfl (by omega) rfl rfl (fun b84 c84 => ?_)
              refine J.rd (Rd.assign rfl) rfl rfl ?_
              refine J.done ?_
              refine J.thenN ?_
              refine J.seq ?_
              refine J.seq ?_
              refine J.conv (C' := Sto Z (own 53 1 v1 vs1.length vs1 :: pts pp (.cells [.int .i64 (ev : Nat), .int .i64 (n1 : Nat), .int .i64 (0 : Nat), bv'].toArray 116 (0, 0)) :: own 5 1 bv' ([] : List UInt8).length (bytesV []) :: pts pw (.cells [.int .i64 (ev : Nat), .int .i64 (n1 : Nat), .string T1, .bool wf].toArray 114 (0, 0)) :: own 5 1 (.slice b80 (A.length + data.length) c80) (A ++ data).length (bytesV (A ++ data)) :: own 5 1 (.slice b84 (A.length + (soundOf out).length) c84) (A ++ data).length (bytesV (A ++ data)) :: mp keyStr (.map (some b50)) kv1 :: (L1 ++ Lf))) (fun w hw => by
                have e1 : (A ++ data).length = A.length + data.length := by simp
                rw [p6] at hw
                rw [p6, e1, bytesV_append]
                exact St.sub hw) ?_
              refine J.region ?_
              refine J.rd (Rd.move rfl) rfl rfl ?_
              refine J.rd (Rd.bin' rfl rfl rfl (fun _ => rfl)) rfl rfl ?_
              refine J.rd (Rd.move rfl) rfl rfl ?_
              refine J.bcase (fun hb7 => ?_) (fun hb7 => ?_)
              · skip
                simp at hb7
              · skip
                refine J.rd (Rd.move rfl) rfl rfl ?_
                refine J.rd (Rd.convBS Tryd.underlying27 Tryd.underlying9 rfl (fun w hw => SlR_own hw) Tryd.underlying5) rfl rfl ?_
                refine J.rd (Rd.move rfl) rfl rfl ?_
                refine J.rd (Rd.convBS Tryd.underlying27 Tryd.underlying9 rfl (fun w hw => SlR_own hw) Tryd.underlying5) rfl rfl ?_
                refine J.rd (Rd.bin' rfl rfl rfl (fun _ => rfl)) rfl rfl ?_
                refine J.rd (Rd.pickF rfl rfl) rfl rfl ?_
                refine J.done ?_
                refine J.thenN ?_
                refine J.cond rfl (fun hb8 => ?_) (fun hb8 => ?_)
                · skip
                  simp at hb8
                · skip
                  refine J.skip ?_
                  refine J.thenN ?_
                  refine J.seq ?_
                  have hz0 : (cnt + (tolds (out.drop (out.length - 0))).length) = cnt := by simp [tolds]
                  have hat : PcsAt Z (own 53 1 v1 vs1.length vs1 :: pts pp (.cells [.int .i64 (ev : Nat), .int .i64 (n1 : Nat), .int .i64 (0 : Nat), bv'].toArray 116 (0, 0)) :: own 5 1 bv' ([] : List UInt8).length (bytesV []) :: pts pw (.cells [.int .i64 (ev : Nat), .int .i64 (n1 : Nat), .string T1, .bool wf].toArray 114 (0, 0)) :: own 5 1 (.slice b80 (A.length + data.length) c80) (A ++ data).length (bytesV (A ++ data)) :: own 5 1 (.slice b84 (A.length + (soundOf out).length) c84) (A ++ data).length (bytesV (A ++ data)) :: mp keyStr (.map (some b50)) kv1 :: (L1 ++ Lf)) v1 out := hP.at_ (R := Lf) (fun w hw => by exact St.sub hw)
                  obtain ⟨vs, hvl, hsl, hat3⟩ := hat
                  
                  refine J.region ?_
                  refine J.rd (Rd.move rfl) rfl rfl ?_
                  refine J.rd (Rd.lenR Tryd.underlying48 rfl (fun w hw => hsl w hw) rfl) rfl rfl ?_
                  refine J.rd (Rd.move rfl) rfl rfl ?_
                  refine J.done ?_
                  refine J.thenN ?_
                  refine J.block ?_
                  refine J.loop (σ := Nat) (fun k => out.length - k) (fun k => [(1, .slice la acts.length lc), (5, .int .i64 (ev : Nat)), (6, .pointer (some ⟨pw, 0, none⟩)), (8, .pointer (some ⟨pp, 0, none⟩)), (10, (.slice b80 (A.length + data.length) c80)), (11, (.slice b84 (A.length + (soundOf out).length) c84)), (12, .map (some b50)), (13, .int .i64 ((cnt + (tolds (out.drop (out.length - k))).length) : Nat)), (51, .slice la acts.length lc), (52, .int .i64 (acts.length : Nat)), (53, .int .i64 (i : Nat)), (16, v1), (94, v1), (95, .int .i64 (vs.length : Nat)), (96, .int .i64 (k : Nat))])
                    (fun k w => k ≤ out.length ∧ St Z w (own 53 1 v1 vs1.length vs1 :: pts pp (.cells [.int .i64 (ev : Nat), .int .i64 (n1 : Nat), .int .i64 (0 : Nat), bv'].toArray 116 (0, 0)) :: own 5 1 bv' ([] : List UInt8).length (bytesV []) :: pts pw (.cells [.int .i64 (ev : Nat), .int .i64 (n1 : Nat), .string T1, .bool wf].toArray 114 (0, 0)) :: own 5 1 (.slice b80 (A.length + data.length) c80) (A ++ data).length (bytesV (A ++ data)) :: own 5 1 (.slice b84 (A.length + (soundOf out).length) c84) (A ++ data).length (bytesV (A ++ data)) :: mp keyStr (.map (some b50)) kv1 :: (L1 ++ Lf))) 0 (.cons rfl (.cons rfl (.cons rfl (.cons rfl (.cons rfl (.cons rfl (.cons rfl (.cons (by rw [hz0]; rfl) (.cons rfl (.cons rfl (.cons rfl (.cons rfl (.cons rfl (.cons rfl (.cons rfl .nil))))))))))))))) (fun w hw => ⟨Nat.zero_le _, hw⟩) ?_
                  intro k
                  refine J.andC fun hk => ?_
                  refine J.seq ?_
                  refine J.region ?_
                  refine J.rd (Rd.bin' rfl rfl rfl (fun _ => rfl)) rfl rfl ?_
                  refine J.done ?_
                  refine J.thenN ?_
                  refine J.seq ?_
                  refine J.cond rfl (fun hb9 => ?_) (fun hb9 => ?_)
                  · skip
                    refine J.skip ?_
                    refine J.thenN ?_
                    refine J.seq ?_
                    refine J.block ?_
                    refine J.seq ?_
                    have hkl : k < vs.length := by have h := ‹decide ((k : Int) < (vs.length : Int)) = true›; simpa using h
                    obtain ⟨T, x2, hTx, hcase⟩ := hat3 k (by omega)
                    refine J.region ?_
                    refine J.idxR ti53 Tryd.underlying48 rfl rfl hsl hTx rfl rfl (fun ad98 had98 => ?_)
                    refine J.rd (Rd.load rfl Tryd.underlying53 rfl (had98)) rfl rfl ?_
                    refine J.rd (Rd.assign rfl) rfl rfl ?_
                    refine J.done ?_
                    refine J.thenN ?_
                    refine J.seq ?_
                    refine J.region ?_
                    refine J.rd (Rd.move rfl) rfl rfl ?_
                    refine J.rd (Rd.assertD Tryd.underlying54 rfl ti54 rfl) rfl rfl ?_
                    refine J.rd (Rd.move rfl) rfl rfl ?_
                    refine J.rd (Rd.extractL rfl) rfl rfl ?_
                    refine J.rd (Rd.extractL rfl) rfl rfl ?_
                    refine J.rd (Rd.assign rfl) rfl rfl ?_
                    refine J.rd (Rd.assign rfl) rfl rfl ?_
                    refine J.done ?_
                    refine J.thenN ?_
                    refine J.seq ?_
                    refine J.region ?_
                    refine J.rd (Rd.move rfl) rfl rfl ?_
                    refine J.done ?_
                    refine J.thenN ?_
                    refine J.cond rfl (fun hb10 => ?_) (fun hb10 => ?_)
                    · skip
                      obtain rfl : T = 54 := by simpa using hb10
                      rcases hcase with ⟨_, t, hpl, rfl⟩ | ⟨h, _⟩
                      rotate_left
                      · cases h
                      simp only [if_true, eq_self]
                      have htm := told_mem (List.mem_of_getElem? hpl)
                      have ht1 : t = T1.data.toList := p7 t htm
                      have hfr : fr1 = true := by
                        cases fr1 with
                        | true => rfl
                        | false => simp at p8; simp [p8.1] at htm
                      have hlk : lookK kv1 (blockF t) = some (.bool true) := by rw [ht1]; exact (g1 hfr).2
                      have hstep := told_step (by omega) hpl
                      simp only at hstep
                      have hsz : t.length ≤ 1000 := by rw [ht1]; simpa using g2
                      have htd := tolds_drop out (out.length - (k + 1))
                      have hp9 : (if fr1 = true then 1 else 0 : Nat) ≤ 1 := by split <;> omega
                      have hp8 : (tolds out).length ≤ 1 := by omega
                      refine J.seq ?_
                      refine J.region ?_
                      refine J.rd (Rd.move rfl) rfl rfl ?_
                      refine J.rd (Rd.bin' rfl rfl rfl (fun _ => rfl)) rfl rfl ?_
                      first | refine J.val (wI64 ⟨by omega, by omega⟩) ?_ | skip
                      refine J.val (show _ = Value.int .i64 (((cnt + (tolds (out.drop (out.length - (k + 1)))).length) : Nat) : Int) from congrArg (Value.int .i64) (by omega)) ?_
                      refine J.rd (Rd.assign rfl) rfl rfl ?_
                      refine J.done ?_
                      refine J.thenN ?_
                      refine J.seq ?_
                      refine J.region ?_
                      refine J.rd (Rd.move rfl) rfl rfl ?_
                      refine J.rd (Rd.move rfl) rfl rfl ?_
                      refine J.call can26 rfl (fun w hC => Block.Block_calls ⟨t.toArray⟩ (fun w hw => hT w (St.offL (L := L1) (St.sub hw))) (by rw [bsize]; omega) hC) rfl rfl (fun v110 => ?_)
                      refine J.rd (Rd.convBS Tryd.underlying27 Tryd.underlying9 rfl (fun w hw => SlR_own hw) Tryd.underlying5) rfl rfl ?_
                      refine J.rd (Rd.lookup (k := blockF t) keyStr_of Tryd.underlying43 Tryd.underlying9 ti4 rfl rfl) rfl rfl ?_
                      rw [hlk]
                      refine J.rd (Rd.un rfl (fun _ => rfl)) rfl rfl ?_
                      refine J.done ?_
                      refine J.thenN ?_
                      refine J.cond rfl (fun hb11 => ?_) (fun hb11 => ?_)
                      · skip
                        cases hb11
                      · skip
                        refine J.skip ?_
                        refine J.blockN ?_
                        refine J.thenN ?_
                        refine J.region ?_
                        refine J.rd (Rd.bin' rfl rfl rfl (fun _ => rfl)) rfl rfl ?_
                        first | refine J.val (wI64 ⟨by omega, by omega⟩) ?_ | skip
                        refine J.rd (Rd.move rfl) rfl rfl ?_
                        refine J.done ?_
                        refine J.thenN ?_
                        exact J.again k (k + 1) (by show out.length - (k + 1) < out.length - k; omega) (.cons rfl (.cons rfl (.cons rfl (.cons rfl (.cons rfl (.cons rfl (.cons rfl (.cons (by first | rfl | (rw [hstep]; rfl)) (.cons rfl (.cons rfl (.cons rfl (.cons rfl (.cons rfl (.cons rfl (.cons rfl .nil))))))))))))))) (fun w hw => ⟨by omega, by first | exact hw | exact hw.drop0⟩)
                    · skip
                      rcases hcase with ⟨h, _⟩ | ⟨_, l, hpl, _⟩
                      · simp at hb10; contradiction
                      have hstep := told_step (by omega) hpl
                      refine J.skip ?_
                      refine J.blockN ?_
                      refine J.thenN ?_
                      refine J.region ?_
                      refine J.rd (Rd.bin' rfl rfl rfl (fun _ => rfl)) rfl rfl ?_
                      first | refine J.val (wI64 ⟨by omega, by omega⟩) ?_ | skip
                      refine J.rd (Rd.move rfl) rfl rfl ?_
                      refine J.done ?_
                      refine J.thenN ?_
                      exact J.again k (k + 1) (by show out.length - (k + 1) < out.length - k; omega) (.cons rfl (.cons rfl (.cons rfl (.cons rfl (.cons rfl (.cons rfl (.cons rfl (.cons (by first | rfl | (rw [hstep]; rfl)) (.cons rfl (.cons rfl (.cons rfl (.cons rfl (.cons rfl (.cons rfl (.cons rfl .nil))))))))))))))) (fun w hw => ⟨by omega, by first | exact hw | exact hw.drop0⟩)
                  · skip
                    refine J.exit ?_
                    refine J.thenE ?_
                    refine J.thenE ?_
                    refine J.blockE ?_
                    refine J.blockN ?_
                    refine J.thenN ?_
                    obtain rfl : k = out.length := by have h := ‹decide ((k : Int) < (vs.length : Int)) = false›; simp at h; omega
                    simp only [Nat.sub_self, List.drop_zero]
                    have hg : wf = true → titleF T1.data.toList = T1.data.toList ∧ lookK kv1 (blockF T1.data.toList) = some (.bool true) := fun hw => g1 (by
                      cases fr1 with
                      | true => rfl
                      | false => rw [hw] at p8; simp at p8)
                    have hc9 : cnt + (tolds out).length + (if wf then 1 else 0) ≤ i + 1 := by omega
                    have hz9 : ev = 0 → cnt + (tolds out).length = 0 := fun e => by rw [i8 e, p9 e]; rfl
                    refine J.region ?_
                    refine J.rd (Rd.bin' rfl rfl rfl (fun _ => rfl)) rfl rfl ?_
                    first | refine J.val (wI64 ⟨by omega, by omega⟩) ?_ | skip
                    refine J.rd (Rd.move rfl) rfl rfl ?_
                    refine J.done ?_
                    refine J.thenN ?_
                    first | exact J.again ((i, n, title, fresh), (bv, va, vh), (A, kvs, cnt)) ((i + 1, n1, T1, wf), (bv', (.slice b80 (A.length + data.length) c80), (.slice b84 (A.length + (soundOf out).length) c84)), (A ++ data, kv1, cnt + (tolds out).length)) (by show acts.length - (i + 1) < acts.length - i; omega) (.cons rfl (.cons rfl (.cons rfl (.cons rfl (.cons rfl (.cons rfl (.cons rfl (.cons rfl (.cons rfl (.cons rfl (.cons rfl .nil))))))))))) (fun w hw => ⟨⟨by show i + 1 ≤ _; omega, p4, by show n1 ≤ 300 * (i + 1); omega, g2, hg, by show (A ++ data).length ≤ _; simp; omega, hc9, hz9⟩, by have h7 := St.mid7 hw; exact St.sub h7⟩) | exact J.again ((i, n, T1, fr1), (bv, va, vh), (A, kv1, cnt)) ((i + 1, n1, T1, wf), (bv', (.slice b80 (A.length + data.length) c80), (.slice b84 (A.length + (soundOf out).length) c84)), (A ++ data, kv1, cnt + (tolds out).length)) (by show acts.length - (i + 1) < acts.length - i; omega) (.cons rfl (.cons rfl (.cons rfl (.cons rfl (.cons rfl (.cons rfl (.cons rfl (.cons rfl (.cons rfl (.cons rfl (.cons rfl .nil))))))))))) (fun w hw => ⟨⟨by show i + 1 ≤ _; omega, p4, by show n1 ≤ 300 * (i + 1); omega, g2, hg, by show (A ++ data).length ≤ _; simp; omega, hc9, hz9⟩, by have h7 := St.mid7 hw; exact St.sub h7⟩)
            · skip
              obtain ⟨T1, hT1⟩ : ∃ T, T = title := ⟨_, rfl⟩
              subst hT1
              obtain ⟨fr1, hfr1⟩ : ∃ T, T = fresh := ⟨_, rfl⟩
              subst hfr1
              obtain ⟨kv1, hkv1⟩ : ∃ T, T = kvs := ⟨_, rfl⟩
              subst hkv1
              have g1 := i5
              have g2 : T1.size ≤ 1000 := i4
              have g3 : cnt + (if fr1 then 1 else 0) ≤ i + 1 := by omega
              refine J.skip ?_
              refine J.thenN ?_
              refine J.seq ?_
              try rw [← hkv1]
              have hbl := Part.blockF_len T1.data.toList
              have hml : data.length * ((blockF T1.data.toList).length + 2) ≤ 300 * 83 := Nat.mul_le_mul (by omega) (by omega)
              have hwv := woven (every := ev) (n := n) (fresh := fr1) (title := T1.data.toList) (fun h => (g1 h).1) i2 data
              have hwn := wRun_n (every := (ev : Int)) (blk := blockF T1.data.toList) (fresh := fr1) (n := (n : Int)) (by omega) data
              refine J.region ?_
              refine J.rd (Rd.move rfl) rfl rfl ?_
              refine J.rd (Rd.move rfl) rfl rfl ?_
              refine J.rd (Rd.fld fd45_2 rfl) rfl rfl ?_
              refine J.rd (Rd.ld Tryd.underlying27 rfl rfl rfl) rfl rfl ?_
              refine J.call can28 rfl (fun w hC => Weave.weave_calls (every := (ev : Int)) (n := (n : Int)) (title := T1) (fresh := fr1) (data := data) (Lf := pts b15 (.cells [.bool tb, .string ts, x].toArray 45 (0, 0)) :: pts pp (.cells [.int .i64 (ev : Nat), .int .i64 (n : Nat), .int .i64 (0 : Nat), bv].toArray 116 (0, 0)) :: own 5 1 bv ([] : List UInt8).length (bytesV []) :: own 5 1 va A.length (bytesV A) :: own 5 1 vh A.length (bytesV A) :: mp keyStr (.map (some b50)) kv1 :: Lf) (blk := blockF T1.data.toList) (fun w hw => hT w (St.sub hw)) (fun w Lf h hs => Block.Block_calls T1 h (by omega) hs) (by omega) (fun w hw => hx w (St.sub hw)) (by omega) (by omega) (by omega) (St.sub hC)) rfl rfl (fun v73 => ?_)
              generalize hW : wRun (ev : Int) (blockF T1.data.toList) (n : Int) fr1 data = WW at hwv hwn
              obtain ⟨wo, wn, wf⟩ := WW
              simp only at hwn
              simp only [hW]
              obtain ⟨p1, p2, p3, p4, p5, p6, p7, p8, p9⟩ := hwv
              generalize hSS : ptRun ev ⟨n, 0, [], true, []⟩ wo = SS at p1 p2 p3 p4 p5 p6 p7 p8 p9
              obtain ⟨n1, left1, block1, ok, out⟩ := SS
              simp only at p1 p2 p3 p4 p5 p6 p7 p8 p9
              subst p1 p2 p3 p5
              refine J.call can27 rfl (fun w hC => Part.Part_calls (n := n) (bv := bv) (left := 0) (block := []) (data := wo) (Lf := own 5 1 v73 wo.length (bytesV wo) :: pts b15 (.cells [.bool tb, .string ts, x].toArray 45 (0, 0)) :: pts pw (.cells [.int .i64 (ev : Nat), .int .i64 (n1 : Nat), .string T1, .bool wf].toArray 114 (0, 0)) :: own 5 1 va A.length (bytesV A) :: own 5 1 vh A.length (bytesV A) :: mp keyStr (.map (some b50)) kv1 :: Lf) ev (fun w hw => hT w (St.sub hw)) (fun w hw => SlR_own hw) (by omega) (by omega) (by simp) (fun _ => rfl) (St.sub hC)) rfl rfl (fun v74 => ?_)
              refine J.exC fun v1 => J.exC fun bv' => J.exC fun vs1 => J.exC fun L1 => J.andC fun hv74 => J.andC fun hP => ?_
              subst hv74
              rw [hSS] at hP
              simp only at hP
              simp only [hSS]
              have hok := Part.pt_ok (every := ev) (n := n) (s := ⟨n, 0, [], true, []⟩) ⟨Nat.le_refl _, by simp, fun _ => rfl, by simp, by simp [soundOf]⟩ wo
              rw [hSS] at hok
              obtain ⟨o1, o2, o3, o4, o5⟩ := hok
              simp only at o1 o2 o3 o4 o5
              refine J.conv (C' := Sto Z (own 53 1 v1 vs1.length vs1 :: pts pp (.cells [.int .i64 (ev : Nat), .int .i64 (n1 : Nat), .int .i64 (0 : Nat), bv'].toArray 116 (0, 0)) :: own 5 1 bv' ([] : List UInt8).length (bytesV []) :: pts b15 (.cells [.bool tb, .string ts, x].toArray 45 (0, 0)) :: pts pw (.cells [.int .i64 (ev : Nat), .int .i64 (n1 : Nat), .string T1, .bool wf].toArray 114 (0, 0)) :: own 5 1 va A.length (bytesV A) :: own 5 1 vh A.length (bytesV A) :: mp keyStr (.map (some b50)) kv1 :: (L1 ++ Lf))) (fun w hw => St.out6 hw) ?_
              refine J.rd (Rd.move rfl) rfl rfl ?_
              refine J.rd (Rd.extractL rfl) rfl rfl ?_
              refine J.rd (Rd.extractL rfl) rfl rfl ?_
              refine J.rd (Rd.assign rfl) rfl rfl ?_
              refine J.rd (Rd.assign rfl) rfl rfl ?_
              refine J.done ?_
              refine J.thenN ?_
              refine J.seq ?_
              refine J.region ?_
              refine J.rd (Rd.move rfl) rfl rfl ?_
              refine J.rd (Rd.fld fd45_2 rfl) rfl rfl ?_
              refine J.rd (Rd.ld Tryd.underlying27 rfl rfl rfl) rfl rfl ?_
              refine J.app (m := data.length) ti5 Tryd.underlying27 Tryd.underlying27 (.inl ⟨_, rfl⟩) rfl rfl (fun w hw => Src.slRB (hx w (St.offL (L := L1) (St.sub hw)))) (one_bytesV _) (by omega) (by omega) rfl (by omega) rfl rfl (fun b80 c80 => ?_)
              refine J.rd (Rd.assign rfl) rfl rfl ?_
              refine J.done ?_
              refine J.thenN ?_
              refine J.seq ?_
              refine J.region ?_
              refine J.rd (Rd.move rfl) rfl rfl ?_
              refine J.rd (Rd.move rfl) rfl rfl ?_
              refine J.call can29 rfl (fun w hC => Part.Bytes_calls (hP.at_ (R := Lf) (fun w hw => by exact St.sub hw)) (by omega) (by omega) hC) rfl rfl (fun v83 => ?_)
              refine J.app (m := (soundOf out).length) ti5 Tryd.underlying27 Tryd.underlying27 (.inl ⟨_, rfl⟩) rfl rfl (fun w hw => Src_own hw) (by simp [bytesV, Value.oneCell']) (by omega) (by omega) rfl (by omega) rfl rfl (fun b84 c84 => ?_)
              refine J.rd (Rd.assign rfl) rfl rfl ?_
              refine J.done ?_
              refine J.thenN ?_
              refine J.seq ?_
              refine J.seq ?_
              refine J.conv (C' := Sto Z (own 53 1 v1 vs1.length vs1 :: pts pp (.cells [.int .i64 (ev : Nat), .int .i64 (n1 : Nat), .int .i64 (0 : Nat), bv'].toArray 116 (0, 0)) :: own 5 1 bv' ([] : List UInt8).length (bytesV []) :: pts pw (.cells [.int .i64 (ev : Nat), .int .i64 (n1 : Nat), .string T1, .bool wf].toArray 114 (0, 0)) :: own 5 1 (.slice b80 (A.length + data.length) c80) (A ++ data).length (bytesV (A ++ data)) :: own 5 1 (.slice b84 (A.length + (soundOf out).length) c84) (A ++ data).length (bytesV (A ++ data)) :: mp keyStr (.map (some b50)) kv1 :: (L1 ++ Lf))) (fun w hw => by
                have e1 : (A ++ data).length = A.length + data.length := by simp
                rw [p6] at hw
                rw [p6, e1, bytesV_append]
                exact St.sub hw) ?_
              refine J.region ?_
              refine J.rd (Rd.move rfl) rfl rfl ?_
              refine J.rd (Rd.bin' rfl rfl rfl (fun _ => rfl)) rfl rfl ?_
              refine J.rd (Rd.move rfl) rfl rfl ?_
              refine J.bcase (fun hb12 => ?_) (fun hb12 => ?_)
              · skip
                simp at hb12
              · skip
                refine J.rd (Rd.move rfl) rfl rfl ?_
                refine J.rd (Rd.convBS Tryd.underlying27 Tryd.underlying9 rfl (fun w hw => SlR_own hw) Tryd.underlying5) rfl rfl ?_
                refine J.rd (Rd.move rfl) rfl rfl ?_
                refine J.rd (Rd.convBS Tryd.underlying27 Tryd.underlying9 rfl (fun w hw => SlR_own hw) Tryd.underlying5) rfl rfl ?_
                refine J.rd (Rd.bin' rfl rfl rfl (fun _ => rfl)) rfl rfl ?_
                refine J.rd (Rd.pickF rfl rfl) rfl rfl ?_
                refine J.done ?_
                refine J.thenN ?_
                refine J.cond rfl (fun hb13 => ?_) (fun hb13 => ?_)
                · skip
                  simp at hb13
                · skip
                  refine J.skip ?_
                  refine J.thenN ?_
                  refine J.seq ?_
                  have hz0 : (cnt + (tolds (out.drop (out.length - 0))).length) = cnt := by simp [tolds]
                  have hat : PcsAt Z (own 53 1 v1 vs1.length vs1 :: pts pp (.cells [.int .i64 (ev : Nat), .int .i64 (n1 : Nat), .int .i64 (0 : Nat), bv'].toArray 116 (0, 0)) :: own 5 1 bv' ([] : List UInt8).length (bytesV []) :: pts pw (.cells [.int .i64 (ev : Nat), .int .i64 (n1 : Nat), .string T1, .bool wf].toArray 114 (0, 0)) :: own 5 1 (.slice b80 (A.length + data.length) c80) (A ++ data).length (bytesV (A ++ data)) :: own 5 1 (.slice b84 (A.length + (soundOf out).length) c84) (A ++ data).length (bytesV (A ++ data)) :: mp keyStr (.map (some b50)) kv1 :: (L1 ++ Lf)) v1 out := hP.at_ (R := Lf) (fun w hw => by exact St.sub hw)
                  obtain ⟨vs, hvl, hsl, hat3⟩ := hat
                  
                  refine J.region ?_
                  refine J.rd (Rd.move rfl) rfl rfl ?_
                  refine J.rd (Rd.lenR Tryd.underlying48 rfl (fun w hw => hsl w hw) rfl) rfl rfl ?_
                  refine J.rd (Rd.move rfl) rfl rfl ?_
                  refine J.done ?_
                  refine J.thenN ?_
                  refine J.block ?_
                  refine J.loop (σ := Nat) (fun k => out.length - k) (fun k => [(1, .slice la acts.length lc), (5, .int .i64 (ev : Nat)), (6, .pointer (some ⟨pw, 0, none⟩)), (8, .pointer (some ⟨pp, 0, none⟩)), (10, (.slice b80 (A.length + data.length) c80)), (11, (.slice b84 (A.length + (soundOf out).length) c84)), (12, .map (some b50)), (13, .int .i64 ((cnt + (tolds (out.drop (out.length - k))).length) : Nat)), (51, .slice la acts.length lc), (52, .int .i64 (acts.length : Nat)), (53, .int .i64 (i : Nat)), (16, v1), (94, v1), (95, .int .i64 (vs.length : Nat)), (96, .int .i64 (k : Nat))])
                    (fun k w => k ≤ out.length ∧ St Z w (own 53 1 v1 vs1.length vs1 :: pts pp (.cells [.int .i64 (ev : Nat), .int .i64 (n1 : Nat), .int .i64 (0 : Nat), bv'].toArray 116 (0, 0)) :: own 5 1 bv' ([] : List UInt8).length (bytesV []) :: pts pw (.cells [.int .i64 (ev : Nat), .int .i64 (n1 : Nat), .string T1, .bool wf].toArray 114 (0, 0)) :: own 5 1 (.slice b80 (A.length + data.length) c80) (A ++ data).length (bytesV (A ++ data)) :: own 5 1 (.slice b84 (A.length + (soundOf out).length) c84) (A ++ data).length (bytesV (A ++ data)) :: mp keyStr (.map (some b50)) kv1 :: (L1 ++ Lf))) 0 (.cons rfl (.cons rfl (.cons rfl (.cons rfl (.cons rfl (.cons rfl (.cons rfl (.cons (by rw [hz0]; rfl) (.cons rfl (.cons rfl (.cons rfl (.cons rfl (.cons rfl (.cons rfl (.cons rfl .nil))))))))))))))) (fun w hw => ⟨Nat.zero_le _, hw⟩) ?_
                  intro k
                  refine J.andC fun hk => ?_
                  refine J.seq ?_
                  refine J.region ?_
                  refine J.rd (Rd.bin' rfl rfl rfl (fun _ => rfl)) rfl rfl ?_
                  refine J.done ?_
                  refine J.thenN ?_
                  refine J.seq ?_
                  refine J.cond rfl (fun hb14 => ?_) (fun hb14 => ?_)
                  · skip
                    refine J.skip ?_
                    refine J.thenN ?_
                    refine J.seq ?_
                    refine J.block ?_
                    refine J.seq ?_
                    have hkl : k < vs.length := by have h := ‹decide ((k : Int) < (vs.length : Int)) = true›; simpa using h
                    obtain ⟨T, x2, hTx, hcase⟩ := hat3 k (by omega)
                    refine J.region ?_
                    refine J.idxR ti53 Tryd.underlying48 rfl rfl hsl hTx rfl rfl (fun ad98 had98 => ?_)
                    refine J.rd (Rd.load rfl Tryd.underlying53 rfl (had98)) rfl rfl ?_
                    refine J.rd (Rd.assign rfl) rfl rfl ?_
                    refine J.done ?_
                    refine J.thenN ?_
                    refine J.seq ?_
                    refine J.region ?_
                    refine J.rd (Rd.move rfl) rfl rfl ?_
                    refine J.rd (Rd.assertD Tryd.underlying54 rfl ti54 rfl) rfl rfl ?_
                    refine J.rd (Rd.move rfl) rfl rfl ?_
                    refine J.rd (Rd.extractL rfl) rfl rfl ?_
                    refine J.rd (Rd.extractL rfl) rfl rfl ?_
                    refine J.rd (Rd.assign rfl) rfl rfl ?_
                    refine J.rd (Rd.assign rfl) rfl rfl ?_
                    refine J.done ?_
                    refine J.thenN ?_
                    refine J.seq ?_
                    refine J.region ?_
                    refine J.rd (Rd.move rfl) rfl rfl ?_
                    refine J.done ?_
                    refine J.thenN ?_
                    refine J.cond rfl (fun hb15 => ?_) (fun hb15 => ?_)
                    · skip
                      obtain rfl : T = 54 := by simpa using hb15
                      rcases hcase with ⟨_, t, hpl, rfl⟩ | ⟨h, _⟩
                      rotate_left
                      · cases h
                      simp only [if_true, eq_self]
                      have htm := told_mem (List.mem_of_getElem? hpl)
                      have ht1 : t = T1.data.toList := p7 t htm
                      have hfr : fr1 = true := by
                        cases fr1 with
                        | true => rfl
                        | false => simp at p8; simp [p8.1] at htm
                      have hlk : lookK kv1 (blockF t) = some (.bool true) := by rw [ht1]; exact (g1 hfr).2
                      have hstep := told_step (by omega) hpl
                      simp only at hstep
                      have hsz : t.length ≤ 1000 := by rw [ht1]; simpa using g2
                      have htd := tolds_drop out (out.length - (k + 1))
                      have hp9 : (if fr1 = true then 1 else 0 : Nat) ≤ 1 := by split <;> omega
                      have hp8 : (tolds out).length ≤ 1 := by omega
                      refine J.seq ?_
                      refine J.region ?_
                      refine J.rd (Rd.move rfl) rfl rfl ?_
                      refine J.rd (Rd.bin' rfl rfl rfl (fun _ => rfl)) rfl rfl ?_
                      first | refine J.val (wI64 ⟨by omega, by omega⟩) ?_ | skip
                      refine J.val (show _ = Value.int .i64 (((cnt + (tolds (out.drop (out.length - (k + 1)))).length) : Nat) : Int) from congrArg (Value.int .i64) (by omega)) ?_
                      refine J.rd (Rd.assign rfl) rfl rfl ?_
                      refine J.done ?_
                      refine J.thenN ?_
                      refine J.seq ?_
                      refine J.region ?_
                      refine J.rd (Rd.move rfl) rfl rfl ?_
                      refine J.rd (Rd.move rfl) rfl rfl ?_
                      refine J.call can26 rfl (fun w hC => Block.Block_calls ⟨t.toArray⟩ (fun w hw => hT w (St.offL (L := L1) (St.sub hw))) (by rw [bsize]; omega) hC) rfl rfl (fun v110 => ?_)
                      refine J.rd (Rd.convBS Tryd.underlying27 Tryd.underlying9 rfl (fun w hw => SlR_own hw) Tryd.underlying5) rfl rfl ?_
                      refine J.rd (Rd.lookup (k := blockF t) keyStr_of Tryd.underlying43 Tryd.underlying9 ti4 rfl rfl) rfl rfl ?_
                      rw [hlk]
                      refine J.rd (Rd.un rfl (fun _ => rfl)) rfl rfl ?_
                      refine J.done ?_
                      refine J.thenN ?_
                      refine J.cond rfl (fun hb16 => ?_) (fun hb16 => ?_)
                      · skip
                        cases hb16
                      · skip
                        refine J.skip ?_
                        refine J.blockN ?_
                        refine J.thenN ?_
                        refine J.region ?_
                        refine J.rd (Rd.bin' rfl rfl rfl (fun _ => rfl)) rfl rfl ?_
                        first | refine J.val (wI64 ⟨by omega, by omega⟩) ?_ | skip
                        refine J.rd (Rd.move rfl) rfl rfl ?_
                        refine J.done ?_
                        refine J.thenN ?_
                        exact J.again k (k + 1) (by show out.length - (k + 1) < out.length - k; omega) (.cons rfl (.cons rfl (.cons rfl (.cons rfl (.cons rfl (.cons rfl (.cons rfl (.cons (by first | rfl | (rw [hstep]; rfl)) (.cons rfl (.cons rfl (.cons rfl (.cons rfl (.cons rfl (.cons rfl (.cons rfl .nil))))))))))))))) (fun w hw => ⟨by omega, by first | exact hw | exact hw.drop0⟩)
                    · skip
                      rcases hcase with ⟨h, _⟩ | ⟨_, l, hpl, _⟩
                      · simp at hb15; contradiction
                      have hstep := told_step (by omega) hpl
                      refine J.skip ?_
                      refine J.blockN ?_
                      refine J.thenN ?_
                      refine J.region ?_
                      refine J.rd (Rd.bin' rfl rfl rfl (fun _ => rfl)) rfl rfl ?_
                      first | refine J.val (wI64 ⟨by omega, by omega⟩) ?_ | skip
                      refine J.rd (Rd.move rfl) rfl rfl ?_
                      refine J.done ?_
                      refine J.thenN ?_
                      exact J.again k (k + 1) (by show out.length - (k + 1) < out.length - k; omega) (.cons rfl (.cons rfl (.cons rfl (.cons rfl (.cons rfl (.cons rfl (.cons rfl (.cons (by first | rfl | (rw [hstep]; rfl)) (.cons rfl (.cons rfl (.cons rfl (.cons rfl (.cons rfl (.cons rfl (.cons rfl .nil))))))))))))))) (fun w hw => ⟨by omega, by first | exact hw | exact hw.drop0⟩)
                  · skip
                    refine J.exit ?_
                    refine J.thenE ?_
                    refine J.thenE ?_
                    refine J.blockE ?_
                    refine J.blockN ?_
                    refine J.thenN ?_
                    obtain rfl : k = out.length := by have h := ‹decide ((k : Int) < (vs.length : Int)) = false›; simp at h; omega
                    simp only [Nat.sub_self, List.drop_zero]
                    have hg : wf = true → titleF T1.data.toList = T1.data.toList ∧ lookK kv1 (blockF T1.data.toList) = some (.bool true) := fun hw => g1 (by
                      cases fr1 with
                      | true => rfl
                      | false => rw [hw] at p8; simp at p8)
                    have hc9 : cnt + (tolds out).length + (if wf then 1 else 0) ≤ i + 1 := by omega
                    have hz9 : ev = 0 → cnt + (tolds out).length = 0 := fun e => by rw [i8 e, p9 e]; rfl
                    refine J.region ?_
                    refine J.rd (Rd.bin' rfl rfl rfl (fun _ => rfl)) rfl rfl ?_
                    first | refine J.val (wI64 ⟨by omega, by omega⟩) ?_ | skip
                    refine J.rd (Rd.move rfl) rfl rfl ?_
                    refine J.done ?_
                    refine J.thenN ?_
                    first | exact J.again ((i, n, title, fresh), (bv, va, vh), (A, kvs, cnt)) ((i + 1, n1, T1, wf), (bv', (.slice b80 (A.length + data.length) c80), (.slice b84 (A.length + (soundOf out).length) c84)), (A ++ data, kv1, cnt + (tolds out).length)) (by show acts.length - (i + 1) < acts.length - i; omega) (.cons rfl (.cons rfl (.cons rfl (.cons rfl (.cons rfl (.cons rfl (.cons rfl (.cons rfl (.cons rfl (.cons rfl (.cons rfl .nil))))))))))) (fun w hw => ⟨⟨by show i + 1 ≤ _; omega, p4, by show n1 ≤ 300 * (i + 1); omega, g2, hg, by show (A ++ data).length ≤ _; simp; omega, hc9, hz9⟩, by have h7 := St.mid7 hw; exact St.sub h7⟩) | exact J.again ((i, n, T1, fr1), (bv, va, vh), (A, kv1, cnt)) ((i + 1, n1, T1, wf), (bv', (.slice b80 (A.length + data.length) c80), (.slice b84 (A.length + (soundOf out).length) c84)), (A ++ data, kv1, cnt + (tolds out).length)) (by show acts.length - (i + 1) < acts.length - i; omega) (.cons rfl (.cons rfl (.cons rfl (.cons rfl (.cons rfl (.cons rfl (.cons rfl (.cons rfl (.cons rfl (.cons rfl (.cons rfl .nil))))))))))) (fun w hw => ⟨⟨by show i + 1 ≤ _; omega, p4, by show n1 ≤ 300 * (i + 1); omega, g2, hg, by show (A ++ data).length ≤ _; simp; omega, hc9, hz9⟩, by have h7 := St.mid7 hw; exact St.sub h7⟩)
          · skip
            refine J.exit ?_
            refine J.thenE ?_
            refine J.thenE ?_
            refine J.blockE ?_
            refine J.thenN ?_
            refine J.seq ?_
            refine J.region ?_
            refine J.rd (Rd.move rfl) rfl rfl ?_
            refine J.rd (Rd.move rfl) rfl rfl ?_
            refine J.rd (Rd.lenSl rfl rfl Tryd.underlying34) rfl rfl ?_
            refine J.rd (Rd.bin' rfl rfl rfl (fun _ => rfl)) rfl rfl ?_
            refine J.rd (Rd.move rfl) rfl rfl ?_
            refine J.bcase (fun hb17 => ?_) (fun hb17 => ?_)
            · skip
              refine J.rd (Rd.move rfl) rfl rfl ?_
              refine J.rd (Rd.bin' rfl rfl rfl (fun _ => rfl)) rfl rfl ?_
              refine J.rd (Rd.move rfl) rfl rfl ?_
              refine J.bcase (fun hb18 => ?_) (fun hb18 => ?_)
              · skip
                refine J.pass rfl rfl ?_
                refine J.pass rfl rfl ?_
                refine J.rd (Rd.pickT rfl rfl) rfl rfl ?_
                refine J.rd (Rd.pickT rfl rfl) rfl rfl ?_
                refine J.rd (Rd.assign rfl) rfl rfl ?_
                refine J.done ?_
                refine J.thenN ?_
                refine J.ret ?_
                refine J.leave1 (.inr rfl) rfl rfl (fun w' hC => ?_)
                first | exact ⟨rfl, hC⟩ | exact ⟨rfl, St.sub hC⟩ | exact ⟨by simp at hb18; rw [i8 (by omega)]; rfl, St.sub hC⟩
              · skip
                refine J.rd (Rd.move rfl) rfl rfl ?_
                refine J.rd (Rd.bin' rfl rfl rfl (fun _ => rfl)) rfl rfl ?_
                refine J.rd (Rd.pickF rfl rfl) rfl rfl ?_
                refine J.rd (Rd.pickT rfl rfl) rfl rfl ?_
                refine J.rd (Rd.assign rfl) rfl rfl ?_
                refine J.done ?_
                refine J.thenN ?_
                refine J.ret ?_
                refine J.leave1 (.inr rfl) rfl rfl (fun w' hC => ?_)
                first | exact ⟨rfl, hC⟩ | exact ⟨rfl, St.sub hC⟩ | exact ⟨by simp at hb18; rw [i8 (by omega)]; rfl, St.sub hC⟩
            · skip
              simp at hb17; omega
end Go.Proofs.YtdpfdpmjnifanaaDoor.Wagain
