/- ReplyCodes (sidebandlaw18): true for every number, and what came in is left as it was. Conditions: none beside the row's own (the listed tables hold what the text lays). -/
import Derived.Test.YtdpfdpmjnifanaaDoorCards
import Derived.Test.YtdpfdpmjnifanaaDoorTie
import Derived.Test.YtdpfdpmjnifanaaDoorLaw
import Derived.Test.YtdpfdpmjnifanaaDoorRcodes
import Derived.WalkKit
import Derived.ProofKit
import Derived.Lib.LaidU8
import Derived.KernelRfl
namespace Go.Proofs.YtdpfdpmjnifanaaDoor.replyCodes
open Go Go.ChangeShapes Go.WideShapes Go.ChangeAt Go.RowKit Go.Sb Go.Shelf
set_option maxRecDepth 100000
set_option linter.unusedVariables false
set_option linter.unusedSimpArgs false
theorem ownG : ownKnob Tryd.prog.godebug = none := by kernel_rfl
theorem laidOut : laidOutB Tryd.prog = true := by kernel_rfl
theorem cells1 : Tryd.prog.cellsOf 5 = 1 := by kernel_rfl
theorem first_eq : Pinned.utf8First = Lib.firstData := by kernel_rfl
theorem tabs {W : World} (h : laidMetH Tryd.prog Rows.replyCodesRow.laid W) : Lib.Utf8Tabs 1 2 W :=
  utf8Tabs_of (by kernel_rfl) (by kernel_rfl) (by kernel_rfl) (by kernel_rfl) Tryd.underlying5 Tryd.underlying169 Tryd.underlying171 Tryd.underlying172 (by kernel_rfl) (by kernel_rfl) (by kernel_rfl) ⟨rfl, rfl⟩ ⟨rfl, rfl⟩ (first_eq ▸ Lib.laidMet.reads h (.tail _ (.tail _ (.tail _ (.tail _ (.head _)))))) (Lib.laidMet.reads h (.tail _ (.tail _ (.tail _ (.head _)))))
theorem readable : ∀ t ∈ Tryd.f3.params.toList, Tryd.prog.readableRec t = true ∧ t < Tryd.prog.types.size := by
  rw [Tryd.params3]
  intro t ht
  simp only [List.mem_cons, List.mem_nil_iff, or_false] at ht
  rcases ht with rfl
  · exact ⟨by kernel_rfl, of_decide_eq_true (by kernel_rfl)⟩
theorem contract (H : Type) (enc : TypeId × Value → H) (W : World) (base : Nat) (args : Array Value) (ds gs : List (DataW H)) (before : List MemPlace)
    (hval : ∀ (j : Nat) t v, Tryd.f3.params[j]? = some t → args[j]? = some v → Value.okWide Tryd.prog W .any base t v)
    (hW : DataW.Whole enc Tryd.prog Tryd.f3.params.toList Rows.replyCodesSpec.vars false W args.toList ds gs before) (hL : laidMetH Tryd.prog Rows.replyCodesRow.laid W) :
    Calls Tryd.prog 3 args W fun e W' => ∃ v, e = .returned v ∧ Rows.replyCodesSpec.post enc Tryd.prog Tryd.f3 false true false false W args v W' := by
  have hW' := hW
  obtain ⟨p, q, hA, hV, he, hfz, hnd⟩ := hW
  rw [Tryd.params3] at hA hval
  obtain ⟨v0, vs0, d0, ds0, p0, q0, hargs0, hds0, hp0, h0, r0⟩ := trodAll_cons hA
  obtain ⟨hn1, hn2, hn3⟩ := trodAll_nil r0
  obtain rfl : args = #[v0] := by
    cases args
    simp only [List.toArray] at *
    simp_all
  have hT := tabs hL
  have hst : St W W [was W] := St.self W
  have hTL : ∀ w, St W w [was W] → Lib.Utf8Tabs 1 2 w := fun w hw => ⟨fun c hc => was_cell hw (hT.1 c hc), fun i hi => ⟨was_cell hw (hT.2 i hi).1, was_cell hw (hT.2 i hi).2⟩⟩
  have hP : ∀ w, St W w [was W] → Lib.TabIs Tryd.prog w "internal/strconv.uint64pow10" .u64 Lib.pow10Tab := fun w hw => tabIs_was (tabIs_of (g := 3) (by kernel_rfl) (by kernel_rfl) Tryd.underlying183 Tryd.underlying164 (by kernel_rfl) (by kernel_rfl) (Lib.laidMet.reads hL (.tail _ (.tail _ (.head _))))) hw
  have walk : Calls Tryd.prog 3 #[v0] W (Ret fun r w' => r = .bool true ∧ St W w' [was W]) := by
    obtain ⟨n, rfl, _, _, wf⟩ := open_int Tryd.underlying3 (hval 0 _ _ rfl rfl) h0
    exact Rcodes.ReplyCodes_calls n hTL hP hst
  have hfn : ∀ ds : List (DataW H), ds.length = Tryd.f3.params.size → Rows.replyCodesSpec.fn H ds = { results := [.lit (.bool true)], args := ds } := by
    intro ds hd
    rw [show Tryd.f3.params.size = 1 by rw [Tryd.params3]; rfl] at hd
    match ds, hd with
    | [x0], _ => rfl
  refine walk.mono fun e W' ⟨v, he, hv, hst'⟩ => ?_
  subst hv
  exact ⟨_, he, law_post hW' rfl hfn rfl Tryd.underlying4 laidOut readable (St.toBelow (i := 0) hst' rfl)⟩
/-- A world for the witness: the settled one, the listed tables holding what the text lays. -/
noncomputable def laidWorld (os : Os) : World :=
  let w0 := World.holding Tryd.prog os ⟨#[], #[], []⟩
  let put (h : Array Obj) (g : Nat) (cs : Array Value) : Array Obj := h.modify g fun
    | .cells _ t frozen => .cells cs t frozen
    | o => o
  let h0 := put w0.heap 4 (([0, 1, 28, 2, 29, 14, 24, 3, 30, 22, 20, 15, 25, 17, 4, 8, 31, 27, 13, 23, 21, 19, 16, 7, 26, 12, 18, 6, 11, 5, 10, 9] : List Int).map fun z => Value.int .u8 z).toArray
  let h1 := put h0 5 (([0, 1, 56, 2, 57, 49, 28, 3, 61, 58, 42, 50, 38, 29, 17, 4, 62, 47, 59, 36, 45, 43, 51, 22, 53, 39, 33, 30, 24, 18, 12, 5, 63, 55, 48, 27, 60, 41, 37, 16, 46, 35, 44, 21, 52, 32, 23, 11, 54, 26, 40, 15, 34, 20, 31, 10, 25, 14, 19, 9, 13, 8, 7, 6] : List Int).map fun z => Value.int .u8 z).toArray
  let h2 := put h1 3 (Lib.pow10Tab.map fun z => Value.int .u64 z).toArray
  let h3 := put h2 2 ((List.range 16).flatMap fun i => [Value.int .u8 (Lib.accLo i), Value.int .u8 (Lib.accHi i)]).toArray
  let h4 := put h3 1 (Lib.firstTab.map fun z => Value.int .u8 z).toArray
  { w0 with heap := h4 }
theorem laid_met (os : Os) : laidMet Tryd.prog Rows.replyCodesRow.laid ((laidWorld os).forCall (fun _ _ => 0) ⟨#[], #[.int .i64 0], []⟩).memory :=
  laidMet_of_run' 10 (by kernel_rfl) (by kernel_rfl)
theorem reads (os : Os) {H : Type} (enc : TypeId × Value → H) : ∃ places, DataW.whole enc Tryd.prog ((laidWorld os).forCall (fun _ _ => 0) ⟨#[], #[.int .i64 0], []⟩).memory Tryd.f3.params.toList Rows.replyCodesSpec.vars false #[.int .i64 0].toList 8 = some ([.lit (.int .i64 0)], [], places) :=
  ⟨[], by kernel_rfl⟩
theorem lifted (os : Os) (started : os.Started) (H : Type) (enc : TypeId × Value → H) (F : Stop.Interp) :
    ReturnsInHanded {} Tryd.checked os 3 .any ((OpenSpec.ofChange Rows.replyCodesSpec).preRow enc Tryd.prog Tryd.f3 Rows.replyCodesRow.domain false Rows.replyCodesRow.laid) (((OpenSpec.ofChange Rows.replyCodesSpec).at F).post enc Tryd.prog Tryd.f3 false true false false) := by
  obtain ⟨places, hx⟩ := reads os enc
  refine returnsInHanded_of_row (C := Tryd.checked) (s := OpenSpec.ofChange Rows.replyCodesSpec) ownG started (by kernel_rfl) Tryd.func3
    (witness_row_at (enc := enc) (C := Tryd.checked) false (laidWorld os) #[.int .i64 0] rfl (by kernel_rfl) (by kernel_rfl) (by kernel_rfl)
      (OpenSpec.preRow_of_cond 8 hx (by kernel_rfl) (fun k hk => by cases hk) (by kernel_rfl) (laid_met os))) ?_
  intro W base args ds gs before hval hW _ _ _ hL _ _
  exact contract H enc W base args ds gs before hval hW hL
theorem said : Rows.ReplyCodesSaid :=
  OpenClaim.holds_of_cond 3 Tryd.f3 rfl rfl rfl rfl rfl rfl rfl ⟨rfl, rfl, rfl, rfl, rfl⟩ rfl rfl rfl rfl rfl (by kernel_rfl) Tryd.func3 (by kernel_rfl)
    (of_decide_eq_true (by kernel_rfl)) (by unfold Func.isWrapper; first | (rw [if_pos (by decide +kernel)]; kernel_rfl) | (rw [if_neg (by decide +kernel)]; exact ⟨rfl, rfl⟩))
    (fun os started H enc _ F => by rw [OpenClaim.pre_eq_preRow]; exact lifted os started H enc F)
theorem plain (f : FuncId) (fn : Func) (hf : Tryd.pinned.checked.prog.funcNamed "sideband/sidebandlaw18.ReplyCodes" = some f) (hfn : Tryd.pinned.checked.prog.funcs[f]? = some fn) :
    true = Tryd.pinned.checked.prog.looks [] ∧ ∀ (j : Nat) t, fn.params[j]? = some t → Tryd.pinned.checked.prog.wantsStandIn t = false := by
  obtain rfl : f = 3 := Option.some.inj ((show Tryd.prog.funcNamed "sideband/sidebandlaw18.ReplyCodes" = some 3 by kernel_rfl).symm.trans hf) |>.symm
  obtain rfl : fn = Tryd.f3 := (Option.some.inj (Tryd.func3.symm.trans hfn)).symm
  refine ⟨by kernel_rfl, fun j t ht => ?_⟩
  rw [Tryd.params3] at ht
  have hm := Array.mem_of_getElem? ht
  simp only [List.mem_toArray, List.mem_cons, List.mem_nil_iff, or_false] at hm
  rcases hm with rfl
  · exact (show Tryd.prog.wantsStandIn 3 = false by kernel_rfl)
theorem card : Rows.ReplyCodesCardSaid :=
  Claim7.holds_tied_plain_at .later [] _ _ _ _ said (fun _ h => by cases h) (by kernel_rfl) (fun _ h => by cases h) replyCodes_row_tie rfl ⟨rfl, rfl⟩ (by kernel_rfl) rfl plain (by kernel_rfl)
end Go.Proofs.YtdpfdpmjnifanaaDoor.replyCodes
