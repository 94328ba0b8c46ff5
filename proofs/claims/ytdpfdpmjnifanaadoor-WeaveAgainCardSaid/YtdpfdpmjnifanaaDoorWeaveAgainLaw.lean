/- WeaveAgain (sidebandlaw20): true for every number and every row of acts, and what came in is left as it was. Conditions: none beside the row's own (the two tables of unicode/utf8 hold what the text lays). -/
import Derived.Test.YtdpfdpmjnifanaaDoorCards
import Derived.Test.YtdpfdpmjnifanaaDoorTie
import Derived.Test.YtdpfdpmjnifanaaDoorLaw
import Derived.Test.YtdpfdpmjnifanaaDoorWagain
import Derived.Test.YtdpfdpmjnifanaaDoorActRows
import Derived.WalkKit
import Derived.ProofKit
import Derived.Lib.LaidU8
import Derived.KernelRfl
namespace Go.Proofs.YtdpfdpmjnifanaaDoor.weaveAgain
open Go Go.ChangeShapes Go.WideShapes Go.ChangeAt Go.RowKit Go.Sb Go.Shelf
set_option maxRecDepth 100000
set_option linter.unusedVariables false
set_option linter.unusedSimpArgs false
theorem ownG : ownKnob Tryd.prog.godebug = none := by kernel_rfl
theorem laidOut : laidOutB Tryd.prog = true := by kernel_rfl
theorem cells1 : Tryd.prog.cellsOf 5 = 1 := by kernel_rfl
theorem first_eq : Pinned.utf8First = Lib.firstData := by kernel_rfl
theorem tabs {W : World} (h : laidMetH Tryd.prog Rows.weaveAgainRow.laid W) : Lib.Utf8Tabs 1 2 W :=
  utf8Tabs_of (by kernel_rfl) (by kernel_rfl) (by kernel_rfl) (by kernel_rfl) Tryd.underlying5 Tryd.underlying169 Tryd.underlying171 Tryd.underlying172 (by kernel_rfl) (by kernel_rfl) (by kernel_rfl) ⟨rfl, rfl⟩ ⟨rfl, rfl⟩ (first_eq ▸ Lib.laidMet.reads h (.tail _ (.head _))) (Lib.laidMet.reads h (.head _))
theorem readable : ∀ t ∈ Tryd.f5.params.toList, Tryd.prog.readableRec t = true ∧ t < Tryd.prog.types.size := by
  rw [Tryd.params5]
  intro t ht
  simp only [List.mem_cons, List.mem_nil_iff, or_false] at ht
  rcases ht with rfl | rfl
  · exact ⟨by kernel_rfl, of_decide_eq_true (by kernel_rfl)⟩
  · exact ⟨by kernel_rfl, of_decide_eq_true (by kernel_rfl)⟩
theorem contract (H : Type) (enc : TypeId × Value → H) (W : World) (base : Nat) (args : Array Value) (ds gs : List (DataW H)) (before : List MemPlace)
    (hval : ∀ (j : Nat) t v, Tryd.f5.params[j]? = some t → args[j]? = some v → Value.okWide Tryd.prog W .any base t v)
    (hW : DataW.Whole enc Tryd.prog Tryd.f5.params.toList Rows.weaveAgainSpec.vars false W args.toList ds gs before) (hL : laidMetH Tryd.prog Rows.weaveAgainRow.laid W) :
    Calls Tryd.prog 5 args W fun e W' => ∃ v, e = .returned v ∧ Rows.weaveAgainSpec.post enc Tryd.prog Tryd.f5 false true false false W args v W' := by
  have hW' := hW
  obtain ⟨p, q, hA, hV, he, hfz, hnd⟩ := hW
  rw [Tryd.params5] at hA hval
  obtain ⟨v0, vs0, d0, ds0, p0, q0, hargs0, hds0, hp0, h0, r0⟩ := trodAll_cons hA
  obtain ⟨v1, vs1, d1, ds1, p1, q1, hargs1, hds1, hp1, h1, r1⟩ := trodAll_cons r0
  obtain ⟨hn1, hn2, hn3⟩ := trodAll_nil r1
  obtain rfl : args = #[v0, v1] := by
    cases args
    simp only [List.toArray] at *
    simp_all
  have hT := tabs hL
  have hst : St W W [was W] := St.self W
  have hTL : ∀ w, St W w [was W] → Lib.Utf8Tabs 1 2 w := fun w hw => ⟨fun c hc => was_cell hw (hT.1 c hc), fun i hi => ⟨was_cell hw (hT.2 i hi).1, was_cell hw (hT.2 i hi).2⟩⟩
  have walk : Calls Tryd.prog 5 #[v0, v1] W (Ret fun r w' => r = .bool true ∧ St W w' [was W]) := by
    obtain ⟨n, rfl, _, _, wf⟩ := open_int Tryd.underlying3 (hval 0 _ _ rfl rfl) h0
    obtain ⟨acts, us, hl, hs, ha⟩ := open_acts Tryd.underlying34 Tryd.underlying45 (Deep.hone_of (by kernel_rfl)) (by kernel_rfl) Tryd.underlying4 Tryd.underlying9 Tryd.underlying27 Tryd.underlying5 cells1 (hval 1 _ _ rfl rfl) h1
    exact Wagain.WeaveAgain_calls n hTL hl (fun w hw => hs.was hw) (fun k a hk => ⟨(ha k a hk).1, (ha k a hk).2.1, (ha k a hk).2.2.1, fun w hw => (ha k a hk).2.2.2.was hw⟩) hst
  have hfn : ∀ ds : List (DataW H), ds.length = Tryd.f5.params.size → Rows.weaveAgainSpec.fn H ds = { results := [.lit (.bool true)], args := ds } := by
    intro ds hd
    rw [show Tryd.f5.params.size = 2 by rw [Tryd.params5]; rfl] at hd
    match ds, hd with
    | [x0, x1], _ => rfl
  refine walk.mono fun e W' ⟨v, he, hv, hst'⟩ => ?_
  subst hv
  exact ⟨_, he, law_post hW' rfl hfn rfl Tryd.underlying4 laidOut readable (St.toBelow (i := 0) hst' rfl)⟩
/-- A world for the witness: the settled one, the listed tables holding what the text lays. -/
noncomputable def laidWorld (os : Os) : World :=
  let w0 := World.holding Tryd.prog os ⟨#[], #[], []⟩
  let put (h : Array Obj) (g : Nat) (cs : Array Value) : Array Obj := h.modify g fun
    | .cells _ t frozen => .cells cs t frozen
    | o => o
  let h0 := put w0.heap 2 ((List.range 16).flatMap fun i => [Value.int .u8 (Lib.accLo i), Value.int .u8 (Lib.accHi i)]).toArray
  let h1 := put h0 1 (Lib.firstTab.map fun z => Value.int .u8 z).toArray
  { w0 with heap := h1 }
theorem laid_met (os : Os) : laidMet Tryd.prog Rows.weaveAgainRow.laid ((laidWorld os).forCall (fun _ _ => 0) ⟨#[], #[.int .i64 0, .slice none 0 0], []⟩).memory :=
  laidMet_of_run' 10 (by kernel_rfl) (by kernel_rfl)
theorem reads (os : Os) {H : Type} (enc : TypeId × Value → H) : ∃ places, DataW.whole enc Tryd.prog ((laidWorld os).forCall (fun _ _ => 0) ⟨#[], #[.int .i64 0, .slice none 0 0], []⟩).memory Tryd.f5.params.toList Rows.weaveAgainSpec.vars false #[.int .i64 0, .slice none 0 0].toList 8 = some ([.lit (.int .i64 0), .nil], [], places) :=
  ⟨[], by kernel_rfl⟩
theorem lifted (os : Os) (started : os.Started) (H : Type) (enc : TypeId × Value → H) (F : Stop.Interp) :
    ReturnsInHanded {} Tryd.checked os 5 .any ((OpenSpec.ofChange Rows.weaveAgainSpec).preRow enc Tryd.prog Tryd.f5 Rows.weaveAgainRow.domain false Rows.weaveAgainRow.laid) (((OpenSpec.ofChange Rows.weaveAgainSpec).at F).post enc Tryd.prog Tryd.f5 false true false false) := by
  obtain ⟨places, hx⟩ := reads os enc
  refine returnsInHanded_of_row (C := Tryd.checked) (s := OpenSpec.ofChange Rows.weaveAgainSpec) ownG started (by kernel_rfl) Tryd.func5
    (witness_row_at (enc := enc) (C := Tryd.checked) false (laidWorld os) #[.int .i64 0, .slice none 0 0] rfl (by kernel_rfl) (by kernel_rfl) (by kernel_rfl)
      (OpenSpec.preRow_of_cond 8 hx (by kernel_rfl) (fun k hk => by cases hk) (by kernel_rfl) (laid_met os))) ?_
  intro W base args ds gs before hval hW _ _ _ hL _ _
  exact contract H enc W base args ds gs before hval hW hL
theorem said : Rows.WeaveAgainSaid :=
  OpenClaim.holds_of_cond 5 Tryd.f5 rfl rfl rfl rfl rfl rfl rfl ⟨rfl, rfl, rfl, rfl, rfl⟩ rfl rfl rfl rfl rfl (by kernel_rfl) Tryd.func5 (by kernel_rfl)
    (of_decide_eq_true (by kernel_rfl)) (by unfold Func.isWrapper; first | (rw [if_pos (by decide +kernel)]; kernel_rfl) | (rw [if_neg (by decide +kernel)]; exact ⟨rfl, rfl⟩))
    (fun os started H enc _ F => by rw [OpenClaim.pre_eq_preRow]; exact lifted os started H enc F)
theorem plain (f : FuncId) (fn : Func) (hf : Tryd.pinned.checked.prog.funcNamed "sideband/sidebandlaw20.WeaveAgain" = some f) (hfn : Tryd.pinned.checked.prog.funcs[f]? = some fn) :
    true = Tryd.pinned.checked.prog.looks [] ∧ ∀ (j : Nat) t, fn.params[j]? = some t → Tryd.pinned.checked.prog.wantsStandIn t = false := by
  obtain rfl : f = 5 := Option.some.inj ((show Tryd.prog.funcNamed "sideband/sidebandlaw20.WeaveAgain" = some 5 by kernel_rfl).symm.trans hf) |>.symm
  obtain rfl : fn = Tryd.f5 := (Option.some.inj (Tryd.func5.symm.trans hfn)).symm
  refine ⟨by kernel_rfl, fun j t ht => ?_⟩
  rw [Tryd.params5] at ht
  have hm := Array.mem_of_getElem? ht
  simp only [List.mem_toArray, List.mem_cons, List.mem_nil_iff, or_false] at hm
  rcases hm with rfl | rfl
  · exact (show Tryd.prog.wantsStandIn 3 = false by kernel_rfl)
  · exact (show Tryd.prog.wantsStandIn 34 = false by kernel_rfl)
theorem card : Rows.WeaveAgainCardSaid :=
  Claim7.holds_tied_plain_at .later [] _ _ _ _ said (fun _ h => by cases h) (by kernel_rfl) (fun _ h => by cases h) weaveAgain_row_tie rfl ⟨rfl, rfl⟩ (by kernel_rfl) rfl plain (by kernel_rfl)
end Go.Proofs.YtdpfdpmjnifanaaDoor.weaveAgain
