/- law20's same, WeaveParts. -/
import Derived.Test.YtdpfdpmjnifanaaDoorProg
import Derived.KernelRfl
import Derived.Test.YtdpfdpmjnifanaaDoorRpart
import Derived.Test.YtdpfdpmjnifanaaDoorWargs
import Derived.Test.YtdpfdpmjnifanaaDoorMore
namespace Go.Proofs.YtdpfdpmjnifanaaDoor.Wparts
open Go Go.RowKit Go.Sb
set_option maxRecDepth 100000
set_option linter.unusedVariables false
set_option linter.unusedSimpArgs false
theorem mixed : Tryd.prog.follows .mixedOrders = true := by kernel_rfl
theorem ti27 : TI Tryd.prog 27 1 24 (.slice none 0 0) := TI.of (by kernel_rfl)
theorem ti53 : TI Tryd.prog 53 1 16 (.nilIface) := TI.of (by kernel_rfl)
theorem ti54 : TI Tryd.prog 54 1 16 (.string .empty) := TI.of (by kernel_rfl)
theorem ti67 : TI Tryd.prog 67 3 48 (.agg #[.bool false, .string .empty, .slice none 0 0]) := TI.of (by kernel_rfl)
theorem ti120 : TI Tryd.prog 120 1 24 (.slice none 0 0) := TI.of (by kernel_rfl)
theorem fd67_0 : FD Tryd.prog 67 0 0 := FD.of Tryd.underlying67 (by kernel_rfl)
theorem fd67_1 : FD Tryd.prog 67 1 1 := FD.of Tryd.underlying67 (by kernel_rfl)
theorem fd67_2 : FD Tryd.prog 67 2 2 := FD.of Tryd.underlying67 (by kernel_rfl)
theorem bd61 : BD Tryd.prog 61 [(0, 1), (1, 1), (2, 1), (3, 1)] [.int .i64 0, .int .i64 0, .int .i64 0, .slice none 0 0] := BD.of Tryd.underlying61 (by kernel_rfl) (by kernel_rfl)
theorem can21 : Callable Tryd.prog 21 := ⟨Tryd.f21, Tryd.func21, by kernel_rfl, by kernel_rfl⟩
theorem can24 : Callable Tryd.prog 24 := ⟨Tryd.f24, Tryd.func24, by kernel_rfl, by kernel_rfl⟩
theorem can27 : Callable Tryd.prog 27 := ⟨Tryd.f27, Tryd.func27, by kernel_rfl, by kernel_rfl⟩
theorem can29 : Callable Tryd.prog 29 := ⟨Tryd.f29, Tryd.func29, by kernel_rfl, by kernel_rfl⟩
theorem can30 : Callable Tryd.prog 30 := ⟨Tryd.f30, Tryd.func30, by kernel_rfl, by kernel_rfl⟩
theorem can31 : Callable Tryd.prog 31 := ⟨Tryd.f31, Tryd.func31, by kernel_rfl, by kernel_rfl⟩
theorem can32 : Callable Tryd.prog 32 := ⟨Tryd.f32, Tryd.func32, by kernel_rfl, by kernel_rfl⟩

open Part Rpart
theorem PcsAt.up {Z : World} {L L' : List HP} {v : Value} {ps : List Pc} (h : PcsAt Z L v ps) (hd : ∀ w, St Z w L' → St Z w L) : PcsAt Z L' v ps := by
  obtain ⟨vs, h1, h2, h3⟩ := h
  refine ⟨vs, h1, fun w hw => h2 w (hd w hw), fun k hk => ?_⟩
  obtain ⟨T, x, h4, h5⟩ := h3 k hk
  refine ⟨T, x, h4, ?_⟩
  rcases h5 with h | ⟨e, l, h6, h7⟩
  · exact .inl h
  · exact .inr ⟨e, l, h6, fun w hw => h7 w (hd w hw)⟩
def sndB : Pc → List UInt8
  | .snd l => l
  | .told _ => []
def toldB : Pc → List UInt8
  | .snd _ => []
  | .told t => t
def isTold : Pc → Bool
  | .snd _ => false
  | .told _ => true
theorem snd_step {out : List Pc} {k : Nat} {pc : Pc} (hk : k < out.length) (hp : out[out.length - 1 - k]? = some pc) : soundOf (out.drop (out.length - (k + 1))) = soundOf (out.drop (out.length - k)) ++ sndB pc := by
  rw [show out.length - (k + 1) = out.length - 1 - k by omega, drop_get hp, show out.length - 1 - k + 1 = out.length - k by omega]
  cases pc <;> simp [soundOf, sndB]
/-- The document's pieces (the last first) that may be read wherever these parts are. -/
def PcsAtQ (Z : World) (Lf : List HP) (v : Value) (ps : List Pc) : Prop := ∃ us : List Value, us.length = ps.length * 3 ∧ (∀ w, St Z w Lf → SlS w v ps.length us) ∧ ∀ k, k < ps.length → ∃ pc x, ps[ps.length - 1 - k]? = some pc ∧ us[k * 3 + 0]? = some (.bool (isTold pc)) ∧
  us[k * 3 + 1]? = some (.string ⟨(toldB pc).toArray⟩) ∧ us[k * 3 + 2]? = some x ∧ ∀ w, St Z w Lf → SlR w x (bytesV (sndB pc))
theorem PcsQ.at_ {Z : World} {Lf R : List HP} {v : Value} {ps vs L} (h : PcsQ ps vs L) (hd : ∀ w, St Z w Lf → St Z w (own 67 3 v ps.length vs :: (L ++ R))) : PcsAtQ Z Lf v ps := by
  refine ⟨vs, h.len, fun w hw => SlS_own (hd w hw), fun k hk => ?_⟩
  rcases h.get k hk with ⟨t, h1, h2, h3, h4⟩ | ⟨l, sv, i, h1, h2, h3, h4, h5⟩
  · exact ⟨.told t, _, h1, h2, h3, h4, fun w hw => SlR.nil rfl⟩
  · exact ⟨.snd l, sv, h1, h2, h3, h4, fun w hw => SlR_at (i := i) (hd w hw).drop0 (by rw [List.getElem?_append_left (List.getElem?_eq_some_iff.1 h5).1]; exact h5)⟩

theorem same_calls {Z w : World} {Lf : List HP} {v u : Value} {ps : List Pc} (h : PcsAt Z Lf v ps) (hq : PcsAtQ Z Lf u ps) (hb : ps.length ≤ 500000) (hst : St Z w Lf) : Calls Tryd.prog 31 #[v, u] w (Ret fun r w' => r = .bool true ∧ St Z w' Lf) := by
  refine J.enter (N := 61) (l := [v, u]) (C := Sto Z Lf) Tryd.func31 rfl Tryd.ntmps31 (by simp) (hst) ?_
  obtain ⟨vs, hvl, hsl, hat⟩ := h
  obtain ⟨us, hul, hss, hatq⟩ := hq
  have hun : ∀ w, St Z w Lf → ∃ a c, u = .slice a ps.length c := fun w hw => by obtain ⟨a, c, e, _⟩ := hss w hw; exact ⟨a, c, e⟩
  obtain ⟨ua, uc, hue⟩ := hun w hst
  subst hue
  refine J.seq ?_
  refine J.region ?_
  refine J.rd (Rd.assign rfl) rfl rfl ?_
  refine J.done ?_
  refine J.thenN ?_
  refine J.seq ?_
  refine J.seq ?_
  refine J.region ?_
  refine J.rd (Rd.move rfl) rfl rfl ?_
  refine J.rd (Rd.lenR Tryd.underlying48 rfl (fun w hw => hsl w hw) rfl) rfl rfl ?_
  refine J.rd (Rd.move rfl) rfl rfl ?_
  refine J.rd (Rd.lenSl rfl rfl Tryd.underlying62) rfl rfl ?_
  refine J.rd (Rd.bin' rfl rfl rfl (fun _ => rfl)) rfl rfl ?_
  refine J.done ?_
  refine J.thenN ?_
  refine J.cond rfl (fun hb1 => ?_) (fun hb1 => ?_)
  · skip
    rw [hvl] at hb1; simp at hb1
  · skip
    refine J.skip ?_
    refine J.thenN ?_
    refine J.seq ?_
    refine J.seq ?_
    refine J.region ?_
    refine J.rd (Rd.move rfl) rfl rfl ?_
    refine J.rd (Rd.lenR Tryd.underlying48 rfl (fun w hw => hsl w hw) rfl) rfl rfl ?_
    refine J.rd (Rd.move rfl) rfl rfl ?_
    refine J.done ?_
    refine J.thenN ?_
    refine J.block ?_
    refine J.loop (σ := Nat) (fun k => vs.length - k) (fun k => [(1, .slice ua ps.length uc), (15, v), (16, .int .i64 (vs.length : Nat)), (17, .int .i64 (k : Int))]) (fun k w => k ≤ vs.length ∧ St Z w Lf) 0 (.cons rfl (.cons rfl (.cons rfl (.cons rfl .nil)))) (fun w hw => ⟨Nat.zero_le _, hw⟩) ?_
    intro k
    refine J.andC fun hk => ?_
    refine J.seq ?_
    refine J.region ?_
    refine J.rd (Rd.bin' rfl rfl rfl (fun _ => rfl)) rfl rfl ?_
    refine J.done ?_
    refine J.thenN ?_
    refine J.seq ?_
    refine J.cond rfl (fun hb2 => ?_) (fun hb2 => ?_)
    · skip
      refine J.skip ?_
      refine J.thenN ?_
      refine J.seq ?_
      refine J.block ?_
      refine J.seq ?_
      have hlt : k < vs.length := by simp at hb2; omega
      obtain ⟨T, x, hTx, hcase⟩ := hat k (by omega)
      obtain ⟨pc, y, hpc, c0, c1, c2, hy⟩ := hatq k (by omega)
      have hkp : k < ps.length := by omega
      refine J.region ?_
      refine J.rd (Rd.move rfl) rfl rfl ?_
      refine J.idxR ti53 Tryd.underlying48 rfl rfl hsl hTx rfl rfl (fun ad20 had20 => ?_)
      refine J.rd (Rd.load rfl Tryd.underlying53 rfl (had20)) rfl rfl ?_
      refine J.rd (Rd.assign rfl) rfl rfl ?_
      refine J.rd (Rd.assign rfl) rfl rfl ?_
      refine J.done ?_
      refine J.thenN ?_
      refine J.seq ?_
      refine J.region ?_
      refine J.rd (Rd.move rfl) rfl rfl ?_
      refine J.done ?_
      refine J.thenN ?_
      refine J.block ?_
      refine J.seq ?_
      refine J.region ?_
      refine J.rd (Rd.assertD Tryd.underlying120 rfl ti120 rfl) rfl rfl ?_
      refine J.rd (Rd.extractL rfl) rfl rfl ?_
      refine J.rd (Rd.extractL rfl) rfl rfl ?_
      refine J.done ?_
      refine J.thenN ?_
      refine J.cond rfl (fun hb3 => ?_) (fun hb3 => ?_)
      · skip
        obtain rfl : T = 120 := by simpa using hb3
        rcases hcase with ⟨h, _⟩ | ⟨_, l, hpl, hx⟩
        · cases h
        obtain rfl : pc = .snd l := Option.some.inj (hpc.symm.trans hpl)
        simp only [if_true, eq_self]
        refine J.seq ?_
        refine J.region ?_
        refine J.rd (Rd.assign rfl) rfl rfl ?_
        refine J.done ?_
        refine J.thenN ?_
        refine J.seq ?_
        refine J.elemS (v := .slice ua ps.length uc) (sz := 3) hss c0 (fun gb o hadp hv0 hcells => ?_)
        refine J.draw mixed (by kernel_rfl) (fun w n h => St.drawn h n) ?_
        refine JQ.rd (Rd.move rfl) rfl rfl ?_
        refine JQ.rd (Rd.move rfl) rfl rfl ?_
        refine JQ.rd (Rd.idxP ti67 Tryd.underlying62 hv0 rfl rfl (hkp) hadp) rfl rfl ?_
        refine JQ.rd (Rd.fldAt (n := o + 0) fd67_0 rfl rfl) rfl rfl ?_
        refine JQ.rd (Rd.load rfl Tryd.underlying4 rfl (fun w hw => hcells w hw 0 _ c0)) rfl rfl ?_
        refine JQ.rd (Rd.move rfl) rfl rfl ?_
        refine JQ.bcase (fun hb4 => ?_) (fun hb4 => ?_)
        · skip
          simp [isTold] at hb4
        · skip
          refine JQ.rd (Rd.move rfl) rfl rfl ?_
          refine JQ.rd (Rd.convBS Tryd.underlying120 Tryd.underlying9 rfl (fun w hw => hx w hw) Tryd.underlying5) rfl rfl ?_
          refine JQ.rd (Rd.move rfl) rfl rfl ?_
          refine JQ.rd (Rd.move rfl) rfl rfl ?_
          refine JQ.rd (Rd.idxP ti67 Tryd.underlying62 hv0 rfl rfl (hkp) hadp) rfl rfl ?_
          refine JQ.rd (Rd.fldAt (n := o + 2) fd67_2 rfl rfl) rfl rfl ?_
          refine JQ.rd (Rd.load rfl Tryd.underlying27 rfl (fun w hw => hcells w hw 2 _ c2)) rfl rfl ?_
          refine JQ.rd (Rd.convBS Tryd.underlying27 Tryd.underlying9 rfl (fun w hw => hy w hw) Tryd.underlying5) rfl rfl ?_
          refine JQ.rd (Rd.bin' rfl rfl rfl (fun _ => rfl)) rfl rfl ?_
          refine JQ.rd (Rd.pickF rfl rfl) rfl rfl ?_
          refine JQ.done ?_
          refine J.thenN ?_
          refine J.cond rfl (fun hb5 => ?_) (fun hb5 => ?_)
          · skip
            simp [sndB] at hb5
          · skip
            refine J.skip ?_
            refine J.blockN ?_
            refine J.blockN ?_
            refine J.thenN ?_
            refine J.region ?_
            refine J.rd (Rd.bin' rfl rfl rfl (fun _ => rfl)) rfl rfl ?_
            first | refine J.val (wI64 ⟨by omega, by omega⟩) ?_ | skip
            refine J.rd (Rd.move rfl) rfl rfl ?_
            refine J.done ?_
            refine J.thenN ?_
            exact J.again k (k + 1) (by show vs.length - (k + 1) < vs.length - k; omega) (.cons rfl (.cons rfl (.cons rfl (.cons rfl .nil)))) (fun w hw => ⟨by omega, hw⟩)
      · skip
        refine J.seq ?_
        refine J.region ?_
        refine J.rd (Rd.assertD Tryd.underlying54 rfl ti54 rfl) rfl rfl ?_
        refine J.rd (Rd.extractL rfl) rfl rfl ?_
        refine J.rd (Rd.extractL rfl) rfl rfl ?_
        refine J.done ?_
        refine J.thenN ?_
        refine J.cond rfl (fun hb6 => ?_) (fun hb6 => ?_)
        · skip
          obtain rfl : T = 54 := by simpa using hb6
          rcases hcase with ⟨_, t, hpl, rfl⟩ | ⟨h, _⟩
          rotate_left
          · cases h
          obtain rfl : pc = .told t := Option.some.inj (hpc.symm.trans hpl)
          simp only [if_true, eq_self]
          refine J.seq ?_
          refine J.region ?_
          refine J.rd (Rd.assign rfl) rfl rfl ?_
          refine J.done ?_
          refine J.thenN ?_
          refine J.seq ?_
          refine J.elemS (v := .slice ua ps.length uc) (sz := 3) hss c0 (fun gb o hadp hv0 hcells => ?_)
          refine J.region ?_
          refine J.rd (Rd.move rfl) rfl rfl ?_
          refine J.rd (Rd.move rfl) rfl rfl ?_
          refine J.rd (Rd.idxP ti67 Tryd.underlying62 hv0 rfl rfl (hkp) hadp) rfl rfl ?_
          refine J.rd (Rd.fldAt (n := o + 0) fd67_0 rfl rfl) rfl rfl ?_
          refine J.rd (Rd.load rfl Tryd.underlying4 rfl (fun w hw => hcells w hw 0 _ c0)) rfl rfl ?_
          refine J.rd (Rd.un rfl (fun _ => rfl)) rfl rfl ?_
          refine J.rd (Rd.move rfl) rfl rfl ?_
          refine J.bcase (fun hb7 => ?_) (fun hb7 => ?_)
          · skip
            simp [isTold] at hb7
          · skip
            refine J.rd (Rd.move rfl) rfl rfl ?_
            refine J.rd (Rd.move rfl) rfl rfl ?_
            refine J.rd (Rd.move rfl) rfl rfl ?_
            refine J.rd (Rd.idxP ti67 Tryd.underlying62 hv0 rfl rfl (hkp) hadp) rfl rfl ?_
            refine J.rd (Rd.fldAt (n := o + 1) fd67_1 rfl rfl) rfl rfl ?_
            refine J.rd (Rd.load rfl Tryd.underlying9 rfl (fun w hw => hcells w hw 1 _ c1)) rfl rfl ?_
            refine J.rd (Rd.bin' rfl rfl rfl (fun _ => rfl)) rfl rfl ?_
            refine J.rd (Rd.pickF rfl rfl) rfl rfl ?_
            refine J.done ?_
            refine J.thenN ?_
            refine J.cond rfl (fun hb8 => ?_) (fun hb8 => ?_)
            · skip
              simp [toldB] at hb8
            · skip
              refine J.skip ?_
              refine J.blockN ?_
              refine J.blockN ?_
              refine J.thenN ?_
              refine J.region ?_
              refine J.rd (Rd.bin' rfl rfl rfl (fun _ => rfl)) rfl rfl ?_
              first | refine J.val (wI64 ⟨by omega, by omega⟩) ?_ | skip
              refine J.rd (Rd.move rfl) rfl rfl ?_
              refine J.done ?_
              refine J.thenN ?_
              exact J.again k (k + 1) (by show vs.length - (k + 1) < vs.length - k; omega) (.cons rfl (.cons rfl (.cons rfl (.cons rfl .nil)))) (fun w hw => ⟨by omega, hw⟩)
        · skip
          simp at hb3 hb6; rcases hcase with ⟨h, _⟩ | ⟨h, _⟩ <;> contradiction
    · skip
      refine J.exit ?_
      refine J.thenE ?_
      refine J.thenE ?_
      refine J.blockE ?_
      refine J.thenN ?_
      refine J.seq ?_
      refine J.region ?_
      refine J.rd (Rd.assign rfl) rfl rfl ?_
      refine J.done ?_
      refine J.thenN ?_
      refine J.ret ?_
      refine J.leave1 (.inr rfl) rfl rfl (fun w' hC => ?_)
      exact ⟨rfl, hC⟩

theorem WeaveParts_calls {Z w : World} {Lf : List HP} {lv : Value} {vs : List Value} (n : Int) (hT : ∀ w, St Z w Lf → Lib.Utf8Tabs 1 2 w) (hr : ∀ w, St Z w Lf → SlR w lv vs) (hrows : ∀ i, i < vs.length → ∃ (u : Value) (l : List UInt8), vs[i]? = some u ∧ ∀ w, St Z w Lf → SlR w u (bytesV l)) (hst : St Z w Lf) : Calls Tryd.prog 7 #[.int .i64 n, lv] w (Ret fun r w' => r = .bool true ∧ St Z w' Lf) := by
  refine J.enter (N := 117) (l := [.int .i64 n, lv]) (C := Sto Z Lf) Tryd.func7 rfl Tryd.ntmps7 (by simp) (hst) ?_
  refine J.seq ?_
  refine J.region ?_
  refine J.rd (Rd.assign rfl) rfl rfl ?_
  refine J.done ?_
  refine J.thenN ?_
  refine J.seq ?_
  refine J.seq ?_
  refine J.region ?_
  refine J.call can21 rfl (fun w hC => Wargs.lives_calls hT hC) rfl rfl (fun v18 => ?_)
  refine J.andC fun hv18 => ?_
  subst hv18
  refine J.rd (Rd.un rfl (fun _ => rfl)) rfl rfl ?_
  refine J.rd (Rd.move rfl) rfl rfl ?_
  refine J.bcase (fun hb1 => ?_) (fun hb1 => ?_)
  · skip
    cases hb1
  · skip
    refine J.rd (Rd.move rfl) rfl rfl ?_
    refine J.rd (Rd.lenR Tryd.underlying58 rfl (fun w hw => hr w (St.sub hw)) rfl) rfl rfl ?_
    refine J.rd (Rd.bin' rfl rfl rfl (fun _ => rfl)) rfl rfl ?_
    refine J.rd (Rd.pickF rfl rfl) rfl rfl ?_
    refine J.done ?_
    refine J.thenN ?_
    refine J.cond rfl (fun hb2 => ?_) (fun hb2 => ?_)
    · skip
      refine J.seq ?_
      refine J.region ?_
      refine J.call can21 rfl (fun w hC => Wargs.lives_calls hT hC) rfl rfl (fun v25 => ?_)
      refine J.andC fun hv25 => ?_
      subst hv25
      refine J.rd (Rd.assign rfl) rfl rfl ?_
      refine J.done ?_
      refine J.thenN ?_
      refine J.ret ?_
      refine J.thenR ?_
      refine J.leave1 (.inr rfl) rfl rfl (fun w' hC => ?_)
      exact ⟨rfl, by first | exact hC | exact St.sub hC⟩
    · skip
      refine J.skip ?_
      refine J.thenN ?_
      refine J.seq ?_
      refine J.region ?_
      refine J.rd (Rd.move rfl) rfl rfl ?_
      refine J.rd (Rd.convI rfl Tryd.underlying3 Tryd.underlying36) rfl rfl ?_
      first | refine J.val (wU64 ⟨by omega, by omega⟩) ?_ | skip
      rw [IntKind.wrap_u64]
      refine J.rd (Rd.rem rfl rfl (by first | decide | omega)) rfl rfl ?_
      first | refine J.val (wR (by omega) _) ?_ | skip
      refine J.rd (Rd.convI rfl Tryd.underlying36 Tryd.underlying3) rfl rfl ?_
      first | refine J.val (wI64 ⟨by omega, by omega⟩) ?_ | skip
      obtain ⟨ev, hev⟩ : ∃ ev : Nat, n % 18446744073709551616 % 70 = (ev : Int) := ⟨(n % 18446744073709551616 % 70).toNat, by omega⟩
      have hev70 : ev < 70 := by omega
      refine J.val (show _ = Value.int .i64 (ev : Int) from congrArg (Value.int .i64) hev) ?_
      refine J.rd (Rd.assign rfl) rfl rfl ?_
      refine J.done ?_
      refine J.thenN ?_
      refine J.seq ?_
      refine J.region ?_
      refine J.rd (Rd.move rfl) rfl rfl ?_
      refine J.call can24 rfl (fun w hC => Block.NewParter_calls (ev : Int) (by omega) (by omega) hC) rfl rfl (fun v32 => ?_)
      refine J.exC fun p => ?_
      refine J.andC fun hv32 => ?_
      subst hv32
      refine J.rd (Rd.move rfl) rfl rfl ?_
      refine J.rd (Rd.extractL rfl) rfl rfl ?_
      refine J.rd (Rd.extractL rfl) rfl rfl ?_
      refine J.rd (Rd.assign rfl) rfl rfl ?_
      refine J.rd (Rd.assign rfl) rfl rfl ?_
      refine J.done ?_
      refine J.thenN ?_
      refine J.seq ?_
      refine J.region ?_
      refine J.rd (Rd.move rfl) rfl rfl ?_
      refine J.rd (Rd.build (ps := [(0, .tmp 35)]) bd61 rfl rfl) rfl rfl ?_
      refine J.box rfl rfl rfl rfl (fun b37 => ?_)
      refine J.rd (Rd.assign rfl) rfl rfl ?_
      refine J.done ?_
      refine J.thenN ?_
      refine J.seq ?_
      refine J.seq ?_
      refine J.region ?_
      refine J.rd (Rd.move rfl) rfl rfl ?_
      refine J.rd (Rd.bin' rfl rfl rfl (fun _ => rfl)) rfl rfl ?_
      refine J.done ?_
      refine J.thenN ?_
      refine J.cond rfl (fun hb3 => ?_) (fun hb3 => ?_)
      · skip
        cases hb3
      · skip
        refine J.skip ?_
        refine J.thenN ?_
        refine J.seq ?_
        refine J.seq ?_
        refine J.region ?_
        refine J.rd (Rd.move rfl) rfl rfl ?_
        refine J.rd (Rd.lenR Tryd.underlying58 rfl (fun w hw => hr w (St.sub hw)) rfl) rfl rfl ?_
        refine J.rd (Rd.move rfl) rfl rfl ?_
        refine J.done ?_
        refine J.thenN ?_
        refine J.block ?_
        refine J.loop (σ := Nat × (Nat × Nat × List UInt8) × Value × Value) (fun q => vs.length - q.1) (fun q => [(6, .pointer (some ⟨p, 0, none⟩)), (8, .pointer (some ⟨b37, 0, none⟩)), (40, lv), (41, .int .i64 (vs.length : Nat)), (42, .int .i64 (q.1 : Int))])
          (fun q w => (q.1 ≤ vs.length ∧ q.2.1.1 ≤ 600 * q.1 ∧ q.2.1.2.2.length + q.2.1.2.1 ≤ 4080 ∧ (q.2.1.2.1 = 0 → q.2.1.2.2 = [])) ∧ St Z w (pts p (.cells [.int .i64 (ev : Nat), .int .i64 (q.2.1.1 : Nat), .int .i64 (q.2.1.2.1 : Nat), q.2.2.1].toArray 116 (0, 0)) :: own 5 1 q.2.2.1 q.2.1.2.2.length (bytesV q.2.1.2.2) :: pts b37 (.cells [.int .i64 (ev : Nat), .int .i64 (q.2.1.1 : Nat), .int .i64 (q.2.1.2.1 : Nat), q.2.2.2].toArray 61 (0, 0)) :: own 5 1 q.2.2.2 q.2.1.2.2.length (bytesV q.2.1.2.2) :: Lf))
          (0, (0, 0, []), .slice none 0 0, .slice none 0 0) (.cons rfl (.cons rfl (.cons rfl (.cons rfl (.cons rfl .nil))))) (fun w hw => ⟨⟨Nat.zero_le _, by simp, by simp, fun _ => rfl⟩, by
            have hw2 : St Z w (pts b37 (.cells [.int .i64 (ev : Nat), .int .i64 (0 : Nat), .int .i64 (0 : Nat), .slice none 0 0].toArray 61 (0, 0)) :: pts p (.cells [.int .i64 (ev : Nat), .int .i64 (0 : Nat), .int .i64 (0 : Nat), .slice none 0 0].toArray 116 (0, 0)) :: Lf) := hw
            simp only [List.length_nil, Part.bytesV_nil]; exact St.sub (St.ownNil 5 1 (St.ownNil 5 1 hw2))⟩) ?_
        rintro ⟨i, ⟨pn, left, block⟩, bv, bv2⟩
        refine J.andC fun hq => ?_
        obtain ⟨hq1, hq2, hq3, hq4⟩ := hq
        simp only at hq1 hq2 hq3 hq4
        simp only
        refine J.seq ?_
        refine J.region ?_
        refine J.rd (Rd.bin' rfl rfl rfl (fun _ => rfl)) rfl rfl ?_
        refine J.done ?_
        refine J.thenN ?_
        refine J.seq ?_
        refine J.cond rfl (fun hb4 => ?_) (fun hb4 => ?_)
        · skip
          refine J.skip ?_
          refine J.thenN ?_
          refine J.seq ?_
          refine J.block ?_
          refine J.seq ?_
          have hlt : i < vs.length := by simp at hb4; omega
          have hi40 : vs.length ≤ 40 := by simp at hb2; omega
          obtain ⟨dv, data, hdv, hx⟩ := hrows i hlt
          refine J.region ?_
          refine J.idxR ti27 Tryd.underlying58 rfl rfl (fun w hw => hr w (St.sub hw)) hdv rfl rfl (fun ad44 had44 => ?_)
          refine J.rd (Rd.load rfl Tryd.underlying27 rfl (had44)) rfl rfl ?_
          refine J.rd (Rd.assign rfl) rfl rfl ?_
          refine J.done ?_
          refine J.thenN ?_
          refine J.seq ?_
          refine J.seq ?_
          refine J.region ?_
          refine J.rd (Rd.move rfl) rfl rfl ?_
          refine J.rd (Rd.lenR Tryd.underlying27 rfl (fun w hw => hx w (St.sub hw)) rfl) rfl rfl ?_
          refine J.rd (Rd.bin' rfl rfl rfl (fun _ => rfl)) rfl rfl ?_
          refine J.done ?_
          refine J.thenN ?_
          refine J.cond rfl (fun hb5 => ?_) (fun hb5 => ?_)
          · skip
            refine J.seq ?_
            refine J.region ?_
            refine J.rd (Rd.assign rfl) rfl rfl ?_
            refine J.done ?_
            refine J.thenN ?_
            refine J.ret ?_
            refine J.thenR ?_
            refine J.blockR ?_
            refine J.thenR ?_
            refine J.thenR ?_
            refine J.blockR ?_
            refine J.thenR ?_
            refine J.leave1 (.inr rfl) rfl rfl (fun w' hC => ?_)
            exact ⟨rfl, by first | exact hC | exact St.sub hC⟩
          · skip
            refine J.skip ?_
            refine J.thenN ?_
            refine J.seq ?_
            have hdl : data.length ≤ 600 := by simp [length_bytesV] at hb5; omega
            refine J.region ?_
            refine J.rd (Rd.move rfl) rfl rfl ?_
            refine J.rd (Rd.move rfl) rfl rfl ?_
            refine J.call can27 rfl (fun w hC => Part.Part_calls ev (fun w hw => hT w (St.sub hw)) (fun w hw => hx w (St.sub hw)) (by omega) (by omega) hq3 hq4 hC) rfl rfl (fun v52 => ?_)
            refine J.exC fun v1 => J.exC fun bv' => J.exC fun vs1 => J.exC fun L1 => J.andC fun hv52 => J.andC fun hP => ?_
            subst hv52
            have hok := Part.pt_ok (every := ev) (n := pn) (s := ⟨pn, left, block, true, []⟩) ⟨Nat.le_refl _, hq3, hq4, by simp, by simp [soundOf]⟩ data
            generalize hS : ptRun ev ⟨pn, left, block, true, []⟩ data = S at hok hP
            obtain ⟨n1, left1, block1, ok, out⟩ := S
            obtain ⟨o1, o2, o3, o4, o5⟩ := hok
            simp only at o1 o2 o3 o4 o5 hP
            simp only [hS]
            refine J.rd (Rd.move rfl) rfl rfl ?_
            refine J.rd (Rd.extractL rfl) rfl rfl ?_
            refine J.rd (Rd.extractL rfl) rfl rfl ?_
            refine J.rd (Rd.assign rfl) rfl rfl ?_
            refine J.rd (Rd.assign rfl) rfl rfl ?_
            refine J.done ?_
            refine J.thenN ?_
            refine J.seq ?_
            refine J.region ?_
            refine J.rd (Rd.move rfl) rfl rfl ?_
            refine J.rd (Rd.move rfl) rfl rfl ?_
            refine J.call can30 rfl (fun w hC => Rpart.RPart_calls ev (fun w hw => hx w (St.offL hw.drop0.drop0.drop0)) (by omega) (by omega) hq3 hq4 (St.rot hC)) rfl rfl (fun v58 => ?_)
            refine J.exC fun v2 => J.exC fun bv2' => J.exC fun us1 => J.exC fun M1 => J.andC fun hv58 => J.andC fun hQ => ?_
            subst hv58
            rw [hS] at hQ
            simp only at hQ
            simp only [hS]
            have hat : PcsAt Z (own 67 3 v2 out.length us1 :: pts b37 (.cells [.int .i64 (ev : Nat), .int .i64 (n1 : Nat), .int .i64 (left1 : Nat), bv2'].toArray 61 (0, 0)) :: own 5 1 bv2' block1.length (bytesV block1) :: (M1 ++ (own 53 1 v1 vs1.length vs1 :: pts p (.cells [.int .i64 (ev : Nat), .int .i64 (n1 : Nat), .int .i64 (left1 : Nat), bv'].toArray 116 (0, 0)) :: own 5 1 bv' block1.length (bytesV block1) :: (L1 ++ Lf)))) v1 out := hP.at_ (R := Lf) (fun w hw => St.drop (i := 1) (St.drop (i := 1) (St.offL hw.drop0.drop0.drop0) (by simp)) (by simp))
            have hatq0 : PcsAtQ Z (own 67 3 v2 out.length us1 :: pts b37 (.cells [.int .i64 (ev : Nat), .int .i64 (n1 : Nat), .int .i64 (left1 : Nat), bv2'].toArray 61 (0, 0)) :: own 5 1 bv2' block1.length (bytesV block1) :: (M1 ++ (own 53 1 v1 vs1.length vs1 :: pts p (.cells [.int .i64 (ev : Nat), .int .i64 (n1 : Nat), .int .i64 (left1 : Nat), bv'].toArray 116 (0, 0)) :: own 5 1 bv' block1.length (bytesV block1) :: (L1 ++ Lf)))) v2 out := PcsQ.at_ hQ (fun w hw => St.drop (i := 1) (St.drop (i := 1) hw (by simp)) (by simp))
            obtain ⟨us, hul, hss, hatq⟩ := id hatq0
            refine J.rd (Rd.move rfl) rfl rfl ?_
            refine J.rd (Rd.extractL rfl) rfl rfl ?_
            refine J.rd (Rd.extractL rfl) rfl rfl ?_
            refine J.rd (Rd.assign rfl) rfl rfl ?_
            refine J.rd (Rd.assign rfl) rfl rfl ?_
            refine J.done ?_
            refine J.thenN ?_
            refine J.seq ?_
            refine J.seq ?_
            refine J.region ?_
            refine J.rd (Rd.move rfl) rfl rfl ?_
            refine J.rd (Rd.bin' rfl rfl rfl (fun _ => rfl)) rfl rfl ?_
            refine J.rd (Rd.move rfl) rfl rfl ?_
            refine J.rd (Rd.bin' rfl rfl rfl (fun _ => rfl)) rfl rfl ?_
            refine J.rd (Rd.move rfl) rfl rfl ?_
            refine J.bcase (fun hb6 => ?_) (fun hb6 => ?_)
            · skip
              cases ok <;> simp at hb6
            · skip
              refine J.rd (Rd.move rfl) rfl rfl ?_
              refine J.rd (Rd.un rfl (fun _ => rfl)) rfl rfl ?_
              refine J.rd (Rd.move rfl) rfl rfl ?_
              refine J.bcase (fun hb7 => ?_) (fun hb7 => ?_)
              · skip
                refine J.rd (Rd.move rfl) rfl rfl ?_
                refine J.rd (Rd.bin' rfl rfl rfl (fun _ => rfl)) rfl rfl ?_
                refine J.rd (Rd.pickT rfl rfl) rfl rfl ?_
                refine J.rd (Rd.pickF rfl rfl) rfl rfl ?_
                refine J.rd (Rd.move rfl) rfl rfl ?_
                refine J.bcase (fun hb8 => ?_) (fun hb8 => ?_)
                · skip
                  cases ok <;> simp at hb7 hb8
                · skip
                  refine J.rd (Rd.move rfl) rfl rfl ?_
                  refine J.rd (Rd.move rfl) rfl rfl ?_
                  refine J.call can31 rfl (fun w hC => same_calls hat hatq0 (by omega) hC) rfl rfl (fun v76 => ?_)
                  refine J.andC fun hv76 => ?_
                  subst hv76
                  refine J.rd (Rd.un rfl (fun _ => rfl)) rfl rfl ?_
                  refine J.rd (Rd.pickF rfl rfl) rfl rfl ?_
                  refine J.done ?_
                  refine J.thenN ?_
                  refine J.cond rfl (fun hb9 => ?_) (fun hb9 => ?_)
                  · skip
                    cases hb9
                  · skip
                    refine J.skip ?_
                    refine J.thenN ?_
                    refine J.seq ?_
                    refine J.region ?_
                    refine J.rd (Rd.assign rfl) rfl rfl ?_
                    refine J.done ?_
                    refine J.thenN ?_
                    refine J.seq ?_
                    refine J.seq ?_
                    refine J.region ?_
                    refine J.rd (Rd.move rfl) rfl rfl ?_
                    refine J.rd (Rd.lenOwn rfl rfl Tryd.underlying62) rfl rfl ?_
                    refine J.rd (Rd.move rfl) rfl rfl ?_
                    refine J.done ?_
                    refine J.thenN ?_
                    refine J.block ?_
                    refine J.loop (σ := Nat) (fun k => out.length - k) (fun k => [(6, .pointer (some ⟨p, 0, none⟩)), (8, .pointer (some ⟨b37, 0, none⟩)), (40, lv), (41, .int .i64 (vs.length : Nat)), (42, .int .i64 (i : Int)), (11, v1), (13, v2), (79, v2), (80, .int .i64 (out.length : Nat)), (81, .int .i64 (k : Int)), (15, .string ⟨(soundOf (out.drop (out.length - k))).toArray⟩)])
                      (fun k w => k ≤ out.length ∧ St Z w (own 67 3 v2 out.length us1 :: pts b37 (.cells [.int .i64 (ev : Nat), .int .i64 (n1 : Nat), .int .i64 (left1 : Nat), bv2'].toArray 61 (0, 0)) :: own 5 1 bv2' block1.length (bytesV block1) :: (M1 ++ (own 53 1 v1 vs1.length vs1 :: pts p (.cells [.int .i64 (ev : Nat), .int .i64 (n1 : Nat), .int .i64 (left1 : Nat), bv'].toArray 116 (0, 0)) :: own 5 1 bv' block1.length (bytesV block1) :: (L1 ++ Lf))))) 0 (.cons rfl (.cons rfl (.cons rfl (.cons rfl (.cons rfl (.cons rfl (.cons rfl (.cons rfl (.cons rfl (.cons rfl (.cons (by simp [soundOf]; rfl) .nil))))))))))) (fun w hw => ⟨Nat.zero_le _, hw⟩) ?_
                    intro k
                    refine J.andC fun hk => ?_
                    have hsk := Part.soundOf_drop out (out.length - k)
                    refine J.seq ?_
                    refine J.region ?_
                    refine J.rd (Rd.bin' rfl rfl rfl (fun _ => rfl)) rfl rfl ?_
                    refine J.done ?_
                    refine J.thenN ?_
                    refine J.seq ?_
                    refine J.cond rfl (fun hb10 => ?_) (fun hb10 => ?_)
                    · skip
                      refine J.skip ?_
                      refine J.thenN ?_
                      refine J.seq ?_
                      refine J.block ?_
                      refine J.seq ?_
                      have hkl : k < out.length := by have h := ‹decide ((k : Int) < (out.length : Int)) = true›; simpa using h
                      obtain ⟨pc, x, hpc, c0, c1, c2, hy⟩ := hatq k hkl
                      refine J.fact (fun w hw => (hy w hw).one) fun hx1 => ?_
                      have hst2 := snd_step hkl hpc
                      have hsl2 := Part.soundOf_drop out (out.length - (k + 1))
                      rw [hst2, List.length_append] at hsl2
                      refine J.elemS (v := v2) (sz := 3) hss c0 (fun gb o hadp hv0 hcells => ?_)
                      refine J.region ?_
                      refine J.rd (Rd.idxP ti67 Tryd.underlying62 hv0 rfl rfl (hkl) hadp) rfl rfl ?_
                      refine J.rd (Rd.ldAggC (cs := [.bool (isTold pc), .string ⟨(toldB pc).toArray⟩, x]) 3 Tryd.underlying67 rfl (by kernel_rfl) rfl rfl (fun w hw j u hj => hcells w hw j u (three_cells c0 c1 c2 j u hj))) rfl rfl ?_
                      refine J.allocT ti67 rfl rfl rfl (fun b17 => ?_)
                      refine J.stoAgg (by kernel_rfl) (by show (true && (true && (x.oneCell' && true))) = true; rw [hx1]; rfl) rfl rfl rfl ?_
                      refine J.done ?_
                      refine J.thenN ?_
                      refine J.region ?_
                      refine J.rd (Rd.move rfl) rfl rfl ?_
                      refine J.rd (Rd.fld fd67_2 rfl) rfl rfl ?_
                      refine J.rd (Rd.ld Tryd.underlying27 rfl rfl rfl) rfl rfl ?_
                      refine J.rd (Rd.convBS Tryd.underlying27 Tryd.underlying9 rfl (fun w hw => hy w hw.drop0) Tryd.underlying5) rfl rfl ?_
                      refine J.rd (Rd.cat rfl rfl (by first | (simp [size_mk]; done) | (simp [size_mk]; omega))) rfl rfl ?_
                      refine J.val (show _ = Value.string ⟨(soundOf (out.drop (out.length - (k + 1)))).toArray⟩ from congrArg Value.string (by rw [hst2]; exact bcat _ _)) ?_
                      refine J.rd (Rd.assign rfl) rfl rfl ?_
                      refine J.done ?_
                      refine J.blockN ?_
                      refine J.thenN ?_
                      refine J.region ?_
                      refine J.rd (Rd.bin' rfl rfl rfl (fun _ => rfl)) rfl rfl ?_
                      first | refine J.val (wI64 ⟨by omega, by omega⟩) ?_ | skip
                      refine J.rd (Rd.move rfl) rfl rfl ?_
                      refine J.done ?_
                      refine J.thenN ?_
                      exact J.again k (k + 1) (by show out.length - (k + 1) < out.length - k; omega) (.cons rfl (.cons rfl (.cons rfl (.cons rfl (.cons rfl (.cons rfl (.cons rfl (.cons rfl (.cons rfl (.cons rfl (.cons rfl .nil))))))))))) (fun w hw => ⟨by omega, hw.drop0⟩)
                    · skip
                      refine J.exit ?_
                      refine J.thenE ?_
                      refine J.thenE ?_
                      refine J.blockE ?_
                      refine J.thenN ?_
                      refine J.seq ?_
                      obtain rfl : k = out.length := by have h := ‹decide ((k : Int) < (out.length : Int)) = false›; simp at h; omega
                      simp only [Nat.sub_self, List.drop_zero]
                      refine J.mix [(true, 0), (true, 3), (false, 1), (true, 2), (true, 4), (true, 5), (true, 6), (true, 7), (true, 8), (true, 9), (true, 10), (true, 11), (true, 12), (true, 13), (true, 14), (true, 15), (true, 16), (true, 18), (true, 19), (true, 20), (true, 21), (false, 17), (true, 22), (true, 23), (true, 24)] mixed (by kernel_rfl) (fun w n h => St.drawn h n) (fun _ hw => hw) ?_
                      refine JM.rd rfl (Rd.move rfl) rfl rfl ?_
                      refine JM.rd rfl (Rd.move rfl) rfl rfl ?_
                      refine JM.eff rfl ?_
                      refine J.call can29 rfl (fun w hC => Part.Bytes_calls hat (by omega) (by omega) hC) rfl rfl (fun v92 => ?_)
                      refine JM.next (fun _ hw => hw) (fun _ hw => St.sub hw) ?_
                      refine JM.rd rfl (Rd.convBS Tryd.underlying27 Tryd.underlying9 rfl (fun w hw => SlR_own hw) Tryd.underlying5) rfl rfl ?_
                      refine JM.rd rfl (Rd.bin' rfl rfl rfl (fun _ => rfl)) rfl rfl ?_
                      refine JM.rd rfl (Rd.move rfl) rfl rfl ?_
                      refine JM.bcase (fun hb11 => ?_) (fun hb11 => ?_)
                      · skip
                        simp at hb11
                      · skip
                        refine JM.rd rfl (Rd.move rfl) rfl rfl ?_
                        refine JM.rd rfl (Rd.lenOwn rfl rfl Tryd.underlying62) rfl rfl ?_
                        refine JM.rd rfl (Rd.bin' rfl rfl rfl (fun _ => rfl)) rfl rfl ?_
                        refine JM.rd rfl (Rd.move rfl) rfl rfl ?_
                        refine JM.bcase (fun hb12 => ?_) (fun hb12 => ?_)
                        · skip
                          have h0 : 0 < out.length := by simpa using hb12
                          obtain ⟨pc, x, hpc, c0, c1, c2, hy⟩ := hatq 0 h0
                          refine JM.elemS (v := v2) (sz := 3) (i := 0) (fun w hw => hss w hw.drop0) c0 (fun gb o hadp hv0 hcells => ?_)
                          refine JM.rd rfl (Rd.move rfl) rfl rfl ?_
                          refine JM.rd rfl (Rd.idxP ti67 Tryd.underlying62 hv0 rfl rfl (h0) hadp) rfl rfl ?_
                          refine JM.rd rfl (Rd.fldAt (n := o + 0) fd67_0 rfl rfl) rfl rfl ?_
                          refine JM.rd rfl (Rd.load rfl Tryd.underlying4 rfl (fun w hw => hcells w hw 0 _ c0)) rfl rfl ?_
                          refine JM.rd rfl (Rd.pickT rfl rfl) rfl rfl ?_
                          refine JM.rd rfl (Rd.move rfl) rfl rfl ?_
                          refine JM.bcase (fun hb13 => ?_) (fun hb13 => ?_)
                          · skip
                            have hfirst : out[out.length - 1]? = some (.told (toldB pc)) := by
                              cases pc with
                              | snd l => simp [isTold] at hb13
                              | told t => simpa [toldB] using hpc
                            refine JM.rd rfl (Rd.move rfl) rfl rfl ?_
                            refine JM.rd rfl (Rd.move rfl) rfl rfl ?_
                            refine JM.rd rfl (Rd.idxP ti67 Tryd.underlying62 hv0 rfl rfl (h0) hadp) rfl rfl ?_
                            refine JM.rd rfl (Rd.fldAt (n := o + 1) fd67_1 rfl rfl) rfl rfl ?_
                            refine JM.rd rfl (Rd.load rfl Tryd.underlying9 rfl (fun w hw => hcells w hw 1 _ c1)) rfl rfl ?_
                            refine JM.eff rfl ?_
                            refine J.call can32 rfl (fun w hC => Part.First_calls (PcsAt.up hat fun w hw => hw.drop0) (t := toldB pc) hfirst hC) rfl rfl (fun v108 => ?_)
                            refine J.andC fun hv108 => ?_
                            subst hv108
                            refine JM.next (fun _ hw => hw) (fun _ hw => St.sub hw) ?_
                            refine JM.rd rfl (Rd.bin' rfl rfl rfl (fun _ => rfl)) rfl rfl ?_
                            refine JM.rd rfl (Rd.pickT rfl rfl) rfl rfl ?_
                            refine JM.rd rfl (Rd.pickF rfl rfl) rfl rfl ?_
                            refine JM.done ?_
                            refine J.thenN ?_
                            refine J.cond rfl (fun hb14 => ?_) (fun hb14 => ?_)
                            · skip
                              simp at hb14
                            · skip
                              refine J.skip ?_
                              refine J.blockN ?_
                              refine J.thenN ?_
                              refine J.region ?_
                              refine J.rd (Rd.bin' rfl rfl rfl (fun _ => rfl)) rfl rfl ?_
                              first | refine J.val (wI64 ⟨by omega, by omega⟩) ?_ | skip
                              refine J.rd (Rd.move rfl) rfl rfl ?_
                              refine J.done ?_
                              refine J.thenN ?_
                              exact J.again (i, (pn, left, block), bv, bv2) (i + 1, (n1, left1, block1), bv', bv2') (by show vs.length - (i + 1) < vs.length - i; omega) (.cons rfl (.cons rfl (.cons rfl (.cons rfl (.cons rfl .nil))))) (fun w hw => ⟨⟨by show i + 1 ≤ _; omega, by show n1 ≤ 600 * (i + 1); omega, o2, o3⟩, St.rot2 hw.drop0⟩)
                          · skip
                            refine JM.pass rfl rfl rfl ?_
                            refine JM.pass rfl rfl rfl ?_
                            refine JM.pass rfl rfl rfl ?_
                            refine JM.pass rfl rfl rfl ?_
                            refine JM.pass rfl rfl rfl ?_
                            refine JM.passE rfl rfl rfl (fun _ hw => hw) ?_
                            refine JM.pass rfl rfl rfl ?_
                            refine JM.rd rfl (Rd.pickF rfl rfl) rfl rfl ?_
                            refine JM.rd rfl (Rd.pickF rfl rfl) rfl rfl ?_
                            refine JM.done ?_
                            refine J.thenN ?_
                            refine J.condF rfl ?_
                            refine J.skip ?_
                            refine J.blockN ?_
                            refine J.thenN ?_
                            refine J.region ?_
                            refine J.rd (Rd.bin' rfl rfl rfl (fun _ => rfl)) rfl rfl ?_
                            first | refine J.val (wI64 ⟨by omega, by omega⟩) ?_ | skip
                            refine J.rd (Rd.move rfl) rfl rfl ?_
                            refine J.done ?_
                            refine J.thenN ?_
                            exact J.again (i, (pn, left, block), bv, bv2) (i + 1, (n1, left1, block1), bv', bv2') (by show vs.length - (i + 1) < vs.length - i; omega) (.cons rfl (.cons rfl (.cons rfl (.cons rfl (.cons rfl .nil))))) (fun w hw => ⟨⟨by show i + 1 ≤ _; omega, by show n1 ≤ 600 * (i + 1); omega, o2, o3⟩, St.rot2 hw.drop0⟩)
                        · skip
                          refine JM.pass rfl rfl rfl ?_
                          refine JM.pass rfl rfl rfl ?_
                          refine JM.pass rfl rfl rfl ?_
                          refine JM.pass rfl rfl rfl ?_
                          refine JM.rd rfl (Rd.pickF rfl rfl) rfl rfl ?_
                          refine JM.rd rfl (Rd.move rfl) rfl rfl ?_
                          refine JM.pass rfl rfl rfl ?_
                          refine JM.pass rfl rfl rfl ?_
                          refine JM.pass rfl rfl rfl ?_
                          refine JM.pass rfl rfl rfl ?_
                          refine JM.pass rfl rfl rfl ?_
                          refine JM.passE rfl rfl rfl (fun _ hw => hw) ?_
                          refine JM.pass rfl rfl rfl ?_
                          refine JM.rd rfl (Rd.pickF rfl rfl) rfl rfl ?_
                          refine JM.rd rfl (Rd.pickF rfl rfl) rfl rfl ?_
                          refine JM.done ?_
                          refine J.thenN ?_
                          refine J.condF rfl ?_
                          refine J.skip ?_
                          refine J.blockN ?_
                          refine J.thenN ?_
                          refine J.region ?_
                          refine J.rd (Rd.bin' rfl rfl rfl (fun _ => rfl)) rfl rfl ?_
                          first | refine J.val (wI64 ⟨by omega, by omega⟩) ?_ | skip
                          refine J.rd (Rd.move rfl) rfl rfl ?_
                          refine J.done ?_
                          refine J.thenN ?_
                          exact J.again (i, (pn, left, block), bv, bv2) (i + 1, (n1, left1, block1), bv', bv2') (by show vs.length - (i + 1) < vs.length - i; omega) (.cons rfl (.cons rfl (.cons rfl (.cons rfl (.cons rfl .nil))))) (fun w hw => ⟨⟨by show i + 1 ≤ _; omega, by show n1 ≤ 600 * (i + 1); omega, o2, o3⟩, St.rot2 hw.drop0⟩)
              · skip
                refine J.pass rfl rfl ?_
                refine J.pass rfl rfl ?_
                refine J.rd (Rd.pickF rfl rfl) rfl rfl ?_
                refine J.rd (Rd.pickF rfl rfl) rfl rfl ?_
                refine J.rd (Rd.move rfl) rfl rfl ?_
                refine J.rd (Rd.move rfl) rfl rfl ?_
                refine J.rd (Rd.move rfl) rfl rfl ?_
                refine J.call can31 rfl (fun w hC => same_calls hat hatq0 (by omega) hC) rfl rfl (fun v76 => ?_)
                refine J.andC fun hv76 => ?_
                subst hv76
                refine J.rd (Rd.un rfl (fun _ => rfl)) rfl rfl ?_
                refine J.rd (Rd.pickF rfl rfl) rfl rfl ?_
                refine J.done ?_
                refine J.thenN ?_
                refine J.cond rfl (fun hb15 => ?_) (fun hb15 => ?_)
                · skip
                  cases hb15
                · skip
                  refine J.skip ?_
                  refine J.thenN ?_
                  refine J.seq ?_
                  refine J.region ?_
                  refine J.rd (Rd.assign rfl) rfl rfl ?_
                  refine J.done ?_
                  refine J.thenN ?_
                  refine J.seq ?_
                  refine J.seq ?_
                  refine J.region ?_
                  refine J.rd (Rd.move rfl) rfl rfl ?_
                  refine J.rd (Rd.lenOwn rfl rfl Tryd.underlying62) rfl rfl ?_
                  refine J.rd (Rd.move rfl) rfl rfl ?_
                  refine J.done ?_
                  refine J.thenN ?_
                  refine J.block ?_
                  refine J.loop (σ := Nat) (fun k => out.length - k) (fun k => [(6, .pointer (some ⟨p, 0, none⟩)), (8, .pointer (some ⟨b37, 0, none⟩)), (40, lv), (41, .int .i64 (vs.length : Nat)), (42, .int .i64 (i : Int)), (11, v1), (13, v2), (79, v2), (80, .int .i64 (out.length : Nat)), (81, .int .i64 (k : Int)), (15, .string ⟨(soundOf (out.drop (out.length - k))).toArray⟩)])
                    (fun k w => k ≤ out.length ∧ St Z w (own 67 3 v2 out.length us1 :: pts b37 (.cells [.int .i64 (ev : Nat), .int .i64 (n1 : Nat), .int .i64 (left1 : Nat), bv2'].toArray 61 (0, 0)) :: own 5 1 bv2' block1.length (bytesV block1) :: (M1 ++ (own 53 1 v1 vs1.length vs1 :: pts p (.cells [.int .i64 (ev : Nat), .int .i64 (n1 : Nat), .int .i64 (left1 : Nat), bv'].toArray 116 (0, 0)) :: own 5 1 bv' block1.length (bytesV block1) :: (L1 ++ Lf))))) 0 (.cons rfl (.cons rfl (.cons rfl (.cons rfl (.cons rfl (.cons rfl (.cons rfl (.cons rfl (.cons rfl (.cons rfl (.cons (by simp [soundOf]; rfl) .nil))))))))))) (fun w hw => ⟨Nat.zero_le _, hw⟩) ?_
                  intro k
                  refine J.andC fun hk => ?_
                  have hsk := Part.soundOf_drop out (out.length - k)
                  refine J.seq ?_
                  refine J.region ?_
                  refine J.rd (Rd.bin' rfl rfl rfl (fun _ => rfl)) rfl rfl ?_
                  refine J.done ?_
                  refine J.thenN ?_
                  refine J.seq ?_
                  refine J.cond rfl (fun hb16 => ?_) (fun hb16 => ?_)
                  · skip
                    refine J.skip ?_
                    refine J.thenN ?_
                    refine J.seq ?_
                    refine J.block ?_
                    refine J.seq ?_
                    have hkl : k < out.length := by have h := ‹decide ((k : Int) < (out.length : Int)) = true›; simpa using h
                    obtain ⟨pc, x, hpc, c0, c1, c2, hy⟩ := hatq k hkl
                    refine J.fact (fun w hw => (hy w hw).one) fun hx1 => ?_
                    have hst2 := snd_step hkl hpc
                    have hsl2 := Part.soundOf_drop out (out.length - (k + 1))
                    rw [hst2, List.length_append] at hsl2
                    refine J.elemS (v := v2) (sz := 3) hss c0 (fun gb o hadp hv0 hcells => ?_)
                    refine J.region ?_
                    refine J.rd (Rd.idxP ti67 Tryd.underlying62 hv0 rfl rfl (hkl) hadp) rfl rfl ?_
                    refine J.rd (Rd.ldAggC (cs := [.bool (isTold pc), .string ⟨(toldB pc).toArray⟩, x]) 3 Tryd.underlying67 rfl (by kernel_rfl) rfl rfl (fun w hw j u hj => hcells w hw j u (three_cells c0 c1 c2 j u hj))) rfl rfl ?_
                    refine J.allocT ti67 rfl rfl rfl (fun b17 => ?_)
                    refine J.stoAgg (by kernel_rfl) (by show (true && (true && (x.oneCell' && true))) = true; rw [hx1]; rfl) rfl rfl rfl ?_
                    refine J.done ?_
                    refine J.thenN ?_
                    refine J.region ?_
                    refine J.rd (Rd.move rfl) rfl rfl ?_
                    refine J.rd (Rd.fld fd67_2 rfl) rfl rfl ?_
                    refine J.rd (Rd.ld Tryd.underlying27 rfl rfl rfl) rfl rfl ?_
                    refine J.rd (Rd.convBS Tryd.underlying27 Tryd.underlying9 rfl (fun w hw => hy w hw.drop0) Tryd.underlying5) rfl rfl ?_
                    refine J.rd (Rd.cat rfl rfl (by first | (simp [size_mk]; done) | (simp [size_mk]; omega))) rfl rfl ?_
                    refine J.val (show _ = Value.string ⟨(soundOf (out.drop (out.length - (k + 1)))).toArray⟩ from congrArg Value.string (by rw [hst2]; exact bcat _ _)) ?_
                    refine J.rd (Rd.assign rfl) rfl rfl ?_
                    refine J.done ?_
                    refine J.blockN ?_
                    refine J.thenN ?_
                    refine J.region ?_
                    refine J.rd (Rd.bin' rfl rfl rfl (fun _ => rfl)) rfl rfl ?_
                    first | refine J.val (wI64 ⟨by omega, by omega⟩) ?_ | skip
                    refine J.rd (Rd.move rfl) rfl rfl ?_
                    refine J.done ?_
                    refine J.thenN ?_
                    exact J.again k (k + 1) (by show out.length - (k + 1) < out.length - k; omega) (.cons rfl (.cons rfl (.cons rfl (.cons rfl (.cons rfl (.cons rfl (.cons rfl (.cons rfl (.cons rfl (.cons rfl (.cons rfl .nil))))))))))) (fun w hw => ⟨by omega, hw.drop0⟩)
                  · skip
                    refine J.exit ?_
                    refine J.thenE ?_
                    refine J.thenE ?_
                    refine J.blockE ?_
                    refine J.thenN ?_
                    refine J.seq ?_
                    obtain rfl : k = out.length := by have h := ‹decide ((k : Int) < (out.length : Int)) = false›; simp at h; omega
                    simp only [Nat.sub_self, List.drop_zero]
                    refine J.mix [(true, 0), (true, 3), (false, 1), (true, 2), (true, 4), (true, 5), (true, 6), (true, 7), (true, 8), (true, 9), (true, 10), (true, 11), (true, 12), (true, 13), (true, 14), (true, 15), (true, 16), (true, 18), (true, 19), (true, 20), (true, 21), (false, 17), (true, 22), (true, 23), (true, 24)] mixed (by kernel_rfl) (fun w n h => St.drawn h n) (fun _ hw => hw) ?_
                    refine JM.rd rfl (Rd.move rfl) rfl rfl ?_
                    refine JM.rd rfl (Rd.move rfl) rfl rfl ?_
                    refine JM.eff rfl ?_
                    refine J.call can29 rfl (fun w hC => Part.Bytes_calls hat (by omega) (by omega) hC) rfl rfl (fun v92 => ?_)
                    refine JM.next (fun _ hw => hw) (fun _ hw => St.sub hw) ?_
                    refine JM.rd rfl (Rd.convBS Tryd.underlying27 Tryd.underlying9 rfl (fun w hw => SlR_own hw) Tryd.underlying5) rfl rfl ?_
                    refine JM.rd rfl (Rd.bin' rfl rfl rfl (fun _ => rfl)) rfl rfl ?_
                    refine JM.rd rfl (Rd.move rfl) rfl rfl ?_
                    refine JM.bcase (fun hb17 => ?_) (fun hb17 => ?_)
                    · skip
                      simp at hb17
                    · skip
                      refine JM.rd rfl (Rd.move rfl) rfl rfl ?_
                      refine JM.rd rfl (Rd.lenOwn rfl rfl Tryd.underlying62) rfl rfl ?_
                      refine JM.rd rfl (Rd.bin' rfl rfl rfl (fun _ => rfl)) rfl rfl ?_
                      refine JM.rd rfl (Rd.move rfl) rfl rfl ?_
                      refine JM.bcase (fun hb18 => ?_) (fun hb18 => ?_)
                      · skip
                        have h0 : 0 < out.length := by simpa using hb18
                        obtain ⟨pc, x, hpc, c0, c1, c2, hy⟩ := hatq 0 h0
                        refine JM.elemS (v := v2) (sz := 3) (i := 0) (fun w hw => hss w hw.drop0) c0 (fun gb o hadp hv0 hcells => ?_)
                        refine JM.rd rfl (Rd.move rfl) rfl rfl ?_
                        refine JM.rd rfl (Rd.idxP ti67 Tryd.underlying62 hv0 rfl rfl (h0) hadp) rfl rfl ?_
                        refine JM.rd rfl (Rd.fldAt (n := o + 0) fd67_0 rfl rfl) rfl rfl ?_
                        refine JM.rd rfl (Rd.load rfl Tryd.underlying4 rfl (fun w hw => hcells w hw 0 _ c0)) rfl rfl ?_
                        refine JM.rd rfl (Rd.pickT rfl rfl) rfl rfl ?_
                        refine JM.rd rfl (Rd.move rfl) rfl rfl ?_
                        refine JM.bcase (fun hb19 => ?_) (fun hb19 => ?_)
                        · skip
                          have hfirst : out[out.length - 1]? = some (.told (toldB pc)) := by
                            cases pc with
                            | snd l => simp [isTold] at hb19
                            | told t => simpa [toldB] using hpc
                          refine JM.rd rfl (Rd.move rfl) rfl rfl ?_
                          refine JM.rd rfl (Rd.move rfl) rfl rfl ?_
                          refine JM.rd rfl (Rd.idxP ti67 Tryd.underlying62 hv0 rfl rfl (h0) hadp) rfl rfl ?_
                          refine JM.rd rfl (Rd.fldAt (n := o + 1) fd67_1 rfl rfl) rfl rfl ?_
                          refine JM.rd rfl (Rd.load rfl Tryd.underlying9 rfl (fun w hw => hcells w hw 1 _ c1)) rfl rfl ?_
                          refine JM.eff rfl ?_
                          refine J.call can32 rfl (fun w hC => Part.First_calls (PcsAt.up hat fun w hw => hw.drop0) (t := toldB pc) hfirst hC) rfl rfl (fun v108 => ?_)
                          refine J.andC fun hv108 => ?_
                          subst hv108
                          refine JM.next (fun _ hw => hw) (fun _ hw => St.sub hw) ?_
                          refine JM.rd rfl (Rd.bin' rfl rfl rfl (fun _ => rfl)) rfl rfl ?_
                          refine JM.rd rfl (Rd.pickT rfl rfl) rfl rfl ?_
                          refine JM.rd rfl (Rd.pickF rfl rfl) rfl rfl ?_
                          refine JM.done ?_
                          refine J.thenN ?_
                          refine J.cond rfl (fun hb20 => ?_) (fun hb20 => ?_)
                          · skip
                            simp at hb20
                          · skip
                            refine J.skip ?_
                            refine J.blockN ?_
                            refine J.thenN ?_
                            refine J.region ?_
                            refine J.rd (Rd.bin' rfl rfl rfl (fun _ => rfl)) rfl rfl ?_
                            first | refine J.val (wI64 ⟨by omega, by omega⟩) ?_ | skip
                            refine J.rd (Rd.move rfl) rfl rfl ?_
                            refine J.done ?_
                            refine J.thenN ?_
                            exact J.again (i, (pn, left, block), bv, bv2) (i + 1, (n1, left1, block1), bv', bv2') (by show vs.length - (i + 1) < vs.length - i; omega) (.cons rfl (.cons rfl (.cons rfl (.cons rfl (.cons rfl .nil))))) (fun w hw => ⟨⟨by show i + 1 ≤ _; omega, by show n1 ≤ 600 * (i + 1); omega, o2, o3⟩, St.rot2 hw.drop0⟩)
                        · skip
                          refine JM.pass rfl rfl rfl ?_
                          refine JM.pass rfl rfl rfl ?_
                          refine JM.pass rfl rfl rfl ?_
                          refine JM.pass rfl rfl rfl ?_
                          refine JM.pass rfl rfl rfl ?_
                          refine JM.passE rfl rfl rfl (fun _ hw => hw) ?_
                          refine JM.pass rfl rfl rfl ?_
                          refine JM.rd rfl (Rd.pickF rfl rfl) rfl rfl ?_
                          refine JM.rd rfl (Rd.pickF rfl rfl) rfl rfl ?_
                          refine JM.done ?_
                          refine J.thenN ?_
                          refine J.condF rfl ?_
                          refine J.skip ?_
                          refine J.blockN ?_
                          refine J.thenN ?_
                          refine J.region ?_
                          refine J.rd (Rd.bin' rfl rfl rfl (fun _ => rfl)) rfl rfl ?_
                          first | refine J.val (wI64 ⟨by omega, by omega⟩) ?_ | skip
                          refine J.rd (Rd.move rfl) rfl rfl ?_
                          refine J.done ?_
                          refine J.thenN ?_
                          exact J.again (i, (pn, left, block), bv, bv2) (i + 1, (n1, left1, block1), bv', bv2') (by show vs.length - (i + 1) < vs.length - i; omega) (.cons rfl (.cons rfl (.cons rfl (.cons rfl (.cons rfl .nil))))) (fun w hw => ⟨⟨by show i + 1 ≤ _; omega, by show n1 ≤ 600 * (i + 1); omega, o2, o3⟩, St.rot2 hw.drop0⟩)
                      · skip
                        refine JM.pass rfl rfl rfl ?_
                        refine JM.pass rfl rfl rfl ?_
                        refine JM.pass rfl rfl rfl ?_
                        refine JM.pass rfl rfl rfl ?_
                        refine JM.rd rfl (Rd.pickF rfl rfl) rfl rfl ?_
                        refine JM.rd rfl (Rd.move rfl) rfl rfl ?_
                        refine JM.pass rfl rfl rfl ?_
                        refine JM.pass rfl rfl rfl ?_
                        refine JM.pass rfl rfl rfl ?_
                        refine JM.pass rfl rfl rfl ?_
                        refine JM.pass rfl rfl rfl ?_
                        refine JM.passE rfl rfl rfl (fun _ hw => hw) ?_
                        refine JM.pass rfl rfl rfl ?_
                        refine JM.rd rfl (Rd.pickF rfl rfl) rfl rfl ?_
                        refine JM.rd rfl (Rd.pickF rfl rfl) rfl rfl ?_
                        refine JM.done ?_
                        refine J.thenN ?_
                        refine J.condF rfl ?_
                        refine J.skip ?_
                        refine J.blockN ?_
                        refine J.thenN ?_
                        refine J.region ?_
                        refine J.rd (Rd.bin' rfl rfl rfl (fun _ => rfl)) rfl rfl ?_
                        first | refine J.val (wI64 ⟨by omega, by omega⟩) ?_ | skip
                        refine J.rd (Rd.move rfl) rfl rfl ?_
                        refine J.done ?_
                        refine J.thenN ?_
                        exact J.again (i, (pn, left, block), bv, bv2) (i + 1, (n1, left1, block1), bv', bv2') (by show vs.length - (i + 1) < vs.length - i; omega) (.cons rfl (.cons rfl (.cons rfl (.cons rfl (.cons rfl .nil))))) (fun w hw => ⟨⟨by show i + 1 ≤ _; omega, by show n1 ≤ 600 * (i + 1); omega, o2, o3⟩, St.rot2 hw.drop0⟩)
        · skip
          refine J.exit ?_
          refine J.thenE ?_
          refine J.thenE ?_
          refine J.blockE ?_
          refine J.thenN ?_
          refine J.seq ?_
          refine J.region ?_
          refine J.rd (Rd.assign rfl) rfl rfl ?_
          refine J.done ?_
          refine J.thenN ?_
          refine J.ret ?_
          refine J.leave1 (.inr rfl) rfl rfl (fun w' hC => ?_)
          exact ⟨rfl, by first | exact hC | exact St.sub hC⟩
end Go.Proofs.YtdpfdpmjnifanaaDoor.Wparts
