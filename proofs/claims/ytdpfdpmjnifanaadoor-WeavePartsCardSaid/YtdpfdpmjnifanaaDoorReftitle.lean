/- the document's Rune, Title, Block. -/
import Derived.Test.YtdpfdpmjnifanaaDoorProg
import Derived.KernelRfl
import Derived.Test.YtdpfdpmjnifanaaDoorIntBits
import Derived.Test.YtdpfdpmjnifanaaDoorRefPure
import Derived.Test.YtdpfdpmjnifanaaDoorStr
namespace Go.Proofs.YtdpfdpmjnifanaaDoor.Reftitle
open Go Go.RowKit Go.Sb
set_option maxRecDepth 100000
set_option linter.unusedVariables false
set_option linter.unusedSimpArgs false
theorem mixed : Tryd.prog.follows .mixedOrders = true := by kernel_rfl
theorem can85 : Callable Tryd.prog 85 := ⟨Tryd.f85, Tryd.func85, by kernel_rfl, by kernel_rfl⟩

theorem rrGo_le {l : List UInt8} {r0 : Nat} (h : r0 < 32) : ∀ k, tailOk l k → rrGo l r0 k < 32 * 64 ^ k
  | 0, _ => by simpa [rrGo] using h
  | k + 1, ht => by
    have ih := rrGo_le h k (fun j hj => ht j (by omega))
    have := ht k (by omega)
    simp only [rrGo, Nat.pow_succ]
    omega
theorem rrN_lt {c n least r0 : Nat} (h : rrN c = (n, least, r0)) : n ≤ 4 ∧ r0 < 32 ∧ least ≤ 65536 := by
  unfold rrN at h
  repeat' split at h
  all_goals (simp only [Prod.mk.injEq] at h; omega)

theorem Rune_calls {Z w : World} {Lf : List HP} (s : ByteArray) (h0 : 0 < s.size) (hst : St Z w Lf) : Calls Tryd.prog 85 #[.string s] w (Ret fun r w' => r = .tuple #[.int .i64 ((refRune s.data.toList).1 : Nat), .int .i64 ((refRune s.data.toList).2 : Nat)] ∧ St Z w' Lf) := by
  refine J.enter (N := 88) (l := [.string s]) (C := Sto Z Lf) Tryd.func85 rfl Tryd.ntmps85 (by simp) (hst) ?_
  have hsl : s.data.toList.length = s.size := by simp
  have hget : ∀ k, k < s.size → s.data[k]? = some (s.data.toList.getD k 0) := fun k hk => by
    rw [← Array.getElem?_toList, List.getD_eq_getElem?_getD, List.getElem?_eq_getElem (by omega)]; rfl
  generalize hL : s.data.toList = L at hsl hget
  have hc256 := (L.getD 0 0).toNat_lt
  generalize hc : (L.getD 0 0).toNat = c at hc256
  refine J.seq ?_
  refine J.region ?_
  refine J.rd (Rd.assign rfl) rfl rfl ?_
  refine J.rd (Rd.assign rfl) rfl rfl ?_
  refine J.done ?_
  refine J.thenN ?_
  refine J.seq ?_
  refine J.region ?_
  refine J.rd (Rd.move rfl) rfl rfl ?_
  refine J.rd (Rd.indexStr (i := 0) rfl rfl Tryd.underlying9 (hget 0 h0)) rfl rfl ?_
  rw [hc]
  refine J.rd (Rd.convI rfl Tryd.underlying5 Tryd.underlying3) rfl rfl ?_
  first | refine J.val (wI64 ⟨by omega, by omega⟩) ?_ | skip
  refine J.rd (Rd.assign rfl) rfl rfl ?_
  refine J.done ?_
  refine J.thenN ?_
  refine J.seq ?_
  refine J.seq ?_
  refine J.region ?_
  refine J.rd (Rd.move rfl) rfl rfl ?_
  refine J.rd (Rd.bin' rfl rfl rfl (fun _ => rfl)) rfl rfl ?_
  refine J.done ?_
  refine J.thenN ?_
  refine J.cond rfl (fun hb1 => ?_) (fun hb1 => ?_)
  · skip
    refine J.seq ?_
    refine J.region ?_
    refine J.rd (Rd.move rfl) rfl rfl ?_
    refine J.rd (Rd.assign rfl) rfl rfl ?_
    refine J.rd (Rd.assign rfl) rfl rfl ?_
    refine J.done ?_
    refine J.thenN ?_
    refine J.ret ?_
    refine J.thenR ?_
    refine J.leave2 (.inr rfl) rfl rfl rfl (fun w' hC => ?_)
    refine ⟨?_, by first | exact hC | exact St.sub hC⟩
    clear hC
    simp only [decide_eq_true_eq, decide_eq_false_iff_not, beq_iff_eq, beq_eq_false_iff_ne, ne_eq] at *
    first
    | (have e := rr_one (l := L) (by rw [hc]; omega)
       rw [e, hc]; rfl)
    | (have e : refRune L = (0, 0) := rr_stray (by rw [hc]; omega) (by rw [hc, hn]; simp only; omega)
       rw [e]; rfl)
    | (have e : refRune L = (0, 0) := rr_tail (k := k) (by rw [hc]; omega) (by rw [hc, hn]; simp only; omega) (by omega)
       rw [e]; rfl)
    | (have hkn : k + 1 = n := by omega
       have hnk : n - 1 = k := by omega
       have e := rr_whole (n := n) (least := least) (r0 := r0) (by rw [hc]; omega) (by rw [hc]; exact hn) (by omega) (by omega) (by rw [hnk]; exact hk.1)
       rw [hnk] at e
       first
       | (rw [if_pos (by omega)] at e
          rw [e]; rfl)
       | (rw [if_neg (by omega)] at e
          rw [e]))
  · skip
    refine J.skip ?_
    refine J.thenN ?_
    refine J.seq ?_
    refine J.region ?_
    refine J.rd (Rd.assign rfl) rfl rfl ?_
    refine J.done ?_
    refine J.thenN ?_
    refine J.seq ?_
    refine J.region ?_
    refine J.rd (Rd.assign rfl) rfl rfl ?_
    refine J.done ?_
    refine J.thenN ?_
    refine J.seq ?_
    refine J.region ?_
    refine J.rd (Rd.assign rfl) rfl rfl ?_
    refine J.done ?_
    refine J.thenN ?_
    refine J.cut (σ := Nat × Nat × Nat) (fun q => [(0, .string s), (4, .int .i64 (c : Nat)), (5, .int .i64 (q.1 : Nat)), (6, .int .i64 (q.2.1 : Nat)), (7, .int .i64 (q.2.2 : Nat))]) (fun q w => rrN c = q ∧ St Z w Lf) ?_ ?_
    · skip
      refine J.block ?_
      refine J.seq ?_
      refine J.region ?_
      refine J.rd (Rd.move rfl) rfl rfl ?_
      refine J.rd (Rd.bin' rfl rfl rfl (fun _ => rfl)) rfl rfl ?_
      refine J.rd (Rd.move rfl) rfl rfl ?_
      refine J.bcase (fun hb2 => ?_) (fun hb2 => ?_)
      · skip
        refine J.rd (Rd.move rfl) rfl rfl ?_
        refine J.rd (Rd.bin' rfl rfl rfl (fun _ => rfl)) rfl rfl ?_
        refine J.rd (Rd.pickT rfl rfl) rfl rfl ?_
        refine J.rd (Rd.assign rfl) rfl rfl ?_
        refine J.done ?_
        refine J.thenN ?_
        refine J.cond rfl (fun hb3 => ?_) (fun hb3 => ?_)
        · skip
          refine J.seq ?_
          refine J.region ?_
          refine J.rd (Rd.assign rfl) rfl rfl ?_
          refine J.done ?_
          refine J.thenN ?_
          refine J.seq ?_
          refine J.region ?_
          refine J.rd (Rd.assign rfl) rfl rfl ?_
          refine J.done ?_
          refine J.thenN ?_
          refine J.region ?_
          refine J.rd (Rd.move rfl) rfl rfl ?_
          refine J.rd (Rd.bin' rfl rfl rfl (fun _ => rfl)) rfl rfl ?_
          first | refine J.val (wI64 ⟨by omega, by omega⟩) ?_ | skip
          refine J.val (show _ = Value.int .i64 ((c - 192 : Nat) : Int) from congrArg (Value.int .i64) (by simp only [decide_eq_true_eq, decide_eq_false_iff_not] at *; omega)) ?_
          refine J.rd (Rd.assign rfl) rfl rfl ?_
          refine J.done ?_
          refine J.blockN ?_
          refine J.thenN ?_
          first
            | (try (exfalso; simp only [decide_eq_true_eq, decide_eq_false_iff_not] at *; omega)
               all_goals (
                 have e : rrN c = (2, 128, c - 192) := by
                   unfold rrN
                   simp only [decide_eq_true_eq, decide_eq_false_iff_not] at *
                   first
                   | (rw [if_pos (by omega)]; done)
                   | (rw [if_neg (by omega), if_pos (by omega)]; done)
                   | (rw [if_neg (by omega), if_neg (by omega), if_pos (by omega)]; done)
                   | (rw [if_neg (by omega), if_neg (by omega), if_neg (by omega)]; done)
                 exact J.met (2, 128, c - 192) (.cons rfl (.cons rfl (.cons rfl (.cons rfl (.cons rfl .nil))))) (fun w hw => ⟨e, hw⟩)))
            | (try (exfalso; simp only [decide_eq_true_eq, decide_eq_false_iff_not] at *; omega)
               all_goals (
                 have e : rrN c = (3, 2048, c - 224) := by
                   unfold rrN
                   simp only [decide_eq_true_eq, decide_eq_false_iff_not] at *
                   first
                   | (rw [if_pos (by omega)]; done)
                   | (rw [if_neg (by omega), if_pos (by omega)]; done)
                   | (rw [if_neg (by omega), if_neg (by omega), if_pos (by omega)]; done)
                   | (rw [if_neg (by omega), if_neg (by omega), if_neg (by omega)]; done)
                 exact J.met (3, 2048, c - 224) (.cons rfl (.cons rfl (.cons rfl (.cons rfl (.cons rfl .nil))))) (fun w hw => ⟨e, hw⟩)))
            | (try (exfalso; simp only [decide_eq_true_eq, decide_eq_false_iff_not] at *; omega)
               all_goals (
                 have e : rrN c = (4, 65536, c - 240) := by
                   unfold rrN
                   simp only [decide_eq_true_eq, decide_eq_false_iff_not] at *
                   first
                   | (rw [if_pos (by omega)]; done)
                   | (rw [if_neg (by omega), if_pos (by omega)]; done)
                   | (rw [if_neg (by omega), if_neg (by omega), if_pos (by omega)]; done)
                   | (rw [if_neg (by omega), if_neg (by omega), if_neg (by omega)]; done)
                 exact J.met (4, 65536, c - 240) (.cons rfl (.cons rfl (.cons rfl (.cons rfl (.cons rfl .nil))))) (fun w hw => ⟨e, hw⟩)))
            | (try (exfalso; simp only [decide_eq_true_eq, decide_eq_false_iff_not] at *; omega)
               all_goals (
                 have e : rrN c = (0, 0, 0) := by
                   unfold rrN
                   simp only [decide_eq_true_eq, decide_eq_false_iff_not] at *
                   first
                   | (rw [if_pos (by omega)]; done)
                   | (rw [if_neg (by omega), if_pos (by omega)]; done)
                   | (rw [if_neg (by omega), if_neg (by omega), if_pos (by omega)]; done)
                   | (rw [if_neg (by omega), if_neg (by omega), if_neg (by omega)]; done)
                 exact J.met (0, 0, 0) (.cons rfl (.cons rfl (.cons rfl (.cons rfl (.cons rfl .nil))))) (fun w hw => ⟨e, hw⟩)))
        · skip
          refine J.seq ?_
          refine J.region ?_
          refine J.rd (Rd.move rfl) rfl rfl ?_
          refine J.rd (Rd.bin' rfl rfl rfl (fun _ => rfl)) rfl rfl ?_
          refine J.rd (Rd.move rfl) rfl rfl ?_
          refine J.bcase (fun hb4 => ?_) (fun hb4 => ?_)
          · skip
            refine J.rd (Rd.move rfl) rfl rfl ?_
            refine J.rd (Rd.bin' rfl rfl rfl (fun _ => rfl)) rfl rfl ?_
            refine J.rd (Rd.pickT rfl rfl) rfl rfl ?_
            refine J.rd (Rd.assign rfl) rfl rfl ?_
            refine J.done ?_
            refine J.thenN ?_
            refine J.cond rfl (fun hb5 => ?_) (fun hb5 => ?_)
            · skip
              refine J.seq ?_
              refine J.region ?_
              refine J.rd (Rd.assign rfl) rfl rfl ?_
              refine J.done ?_
              refine J.thenN ?_
              refine J.seq ?_
              refine J.region ?_
              refine J.rd (Rd.assign rfl) rfl rfl ?_
              refine J.done ?_
              refine J.thenN ?_
              refine J.region ?_
              refine J.rd (Rd.move rfl) rfl rfl ?_
              refine J.rd (Rd.bin' rfl rfl rfl (fun _ => rfl)) rfl rfl ?_
              first | refine J.val (wI64 ⟨by omega, by omega⟩) ?_ | skip
              refine J.val (show _ = Value.int .i64 ((c - 224 : Nat) : Int) from congrArg (Value.int .i64) (by simp only [decide_eq_true_eq, decide_eq_false_iff_not] at *; omega)) ?_
              refine J.rd (Rd.assign rfl) rfl rfl ?_
              refine J.done ?_
              refine J.blockN ?_
              refine J.thenN ?_
              first
                | (try (exfalso; simp only [decide_eq_true_eq, decide_eq_false_iff_not] at *; omega)
                   all_goals (
                     have e : rrN c = (2, 128, c - 192) := by
                       unfold rrN
                       simp only [decide_eq_true_eq, decide_eq_false_iff_not] at *
                       first
                       | (rw [if_pos (by omega)]; done)
                       | (rw [if_neg (by omega), if_pos (by omega)]; done)
                       | (rw [if_neg (by omega), if_neg (by omega), if_pos (by omega)]; done)
                       | (rw [if_neg (by omega), if_neg (by omega), if_neg (by omega)]; done)
                     exact J.met (2, 128, c - 192) (.cons rfl (.cons rfl (.cons rfl (.cons rfl (.cons rfl .nil))))) (fun w hw => ⟨e, hw⟩)))
                | (try (exfalso; simp only [decide_eq_true_eq, decide_eq_false_iff_not] at *; omega)
                   all_goals (
                     have e : rrN c = (3, 2048, c - 224) := by
                       unfold rrN
                       simp only [decide_eq_true_eq, decide_eq_false_iff_not] at *
                       first
                       | (rw [if_pos (by omega)]; done)
                       | (rw [if_neg (by omega), if_pos (by omega)]; done)
                       | (rw [if_neg (by omega), if_neg (by omega), if_pos (by omega)]; done)
                       | (rw [if_neg (by omega), if_neg (by omega), if_neg (by omega)]; done)
                     exact J.met (3, 2048, c - 224) (.cons rfl (.cons rfl (.cons rfl (.cons rfl (.cons rfl .nil))))) (fun w hw => ⟨e, hw⟩)))
                | (try (exfalso; simp only [decide_eq_true_eq, decide_eq_false_iff_not] at *; omega)
                   all_goals (
                     have e : rrN c = (4, 65536, c - 240) := by
                       unfold rrN
                       simp only [decide_eq_true_eq, decide_eq_false_iff_not] at *
                       first
                       | (rw [if_pos (by omega)]; done)
                       | (rw [if_neg (by omega), if_pos (by omega)]; done)
                       | (rw [if_neg (by omega), if_neg (by omega), if_pos (by omega)]; done)
                       | (rw [if_neg (by omega), if_neg (by omega), if_neg (by omega)]; done)
                     exact J.met (4, 65536, c - 240) (.cons rfl (.cons rfl (.cons rfl (.cons rfl (.cons rfl .nil))))) (fun w hw => ⟨e, hw⟩)))
                | (try (exfalso; simp only [decide_eq_true_eq, decide_eq_false_iff_not] at *; omega)
                   all_goals (
                     have e : rrN c = (0, 0, 0) := by
                       unfold rrN
                       simp only [decide_eq_true_eq, decide_eq_false_iff_not] at *
                       first
                       | (rw [if_pos (by omega)]; done)
                       | (rw [if_neg (by omega), if_pos (by omega)]; done)
                       | (rw [if_neg (by omega), if_neg (by omega), if_pos (by omega)]; done)
                       | (rw [if_neg (by omega), if_neg (by omega), if_neg (by omega)]; done)
                     exact J.met (0, 0, 0) (.cons rfl (.cons rfl (.cons rfl (.cons rfl (.cons rfl .nil))))) (fun w hw => ⟨e, hw⟩)))
            · skip
              refine J.seq ?_
              refine J.region ?_
              refine J.rd (Rd.move rfl) rfl rfl ?_
              refine J.rd (Rd.bin' rfl rfl rfl (fun _ => rfl)) rfl rfl ?_
              refine J.rd (Rd.move rfl) rfl rfl ?_
              refine J.bcase (fun hb6 => ?_) (fun hb6 => ?_)
              · skip
                refine J.rd (Rd.move rfl) rfl rfl ?_
                refine J.rd (Rd.bin' rfl rfl rfl (fun _ => rfl)) rfl rfl ?_
                refine J.rd (Rd.pickT rfl rfl) rfl rfl ?_
                refine J.rd (Rd.assign rfl) rfl rfl ?_
                refine J.done ?_
                refine J.thenN ?_
                refine J.cond rfl (fun hb7 => ?_) (fun hb7 => ?_)
                · skip
                  refine J.seq ?_
                  refine J.region ?_
                  refine J.rd (Rd.assign rfl) rfl rfl ?_
                  refine J.done ?_
                  refine J.thenN ?_
                  refine J.seq ?_
                  refine J.region ?_
                  refine J.rd (Rd.assign rfl) rfl rfl ?_
                  refine J.done ?_
                  refine J.thenN ?_
                  refine J.region ?_
                  refine J.rd (Rd.move rfl) rfl rfl ?_
                  refine J.rd (Rd.bin' rfl rfl rfl (fun _ => rfl)) rfl rfl ?_
                  first | refine J.val (wI64 ⟨by omega, by omega⟩) ?_ | skip
                  refine J.val (show _ = Value.int .i64 ((c - 240 : Nat) : Int) from congrArg (Value.int .i64) (by simp only [decide_eq_true_eq, decide_eq_false_iff_not] at *; omega)) ?_
                  refine J.rd (Rd.assign rfl) rfl rfl ?_
                  refine J.done ?_
                  refine J.blockN ?_
                  refine J.thenN ?_
                  first
                    | (try (exfalso; simp only [decide_eq_true_eq, decide_eq_false_iff_not] at *; omega)
                       all_goals (
                         have e : rrN c = (2, 128, c - 192) := by
                           unfold rrN
                           simp only [decide_eq_true_eq, decide_eq_false_iff_not] at *
                           first
                           | (rw [if_pos (by omega)]; done)
                           | (rw [if_neg (by omega), if_pos (by omega)]; done)
                           | (rw [if_neg (by omega), if_neg (by omega), if_pos (by omega)]; done)
                           | (rw [if_neg (by omega), if_neg (by omega), if_neg (by omega)]; done)
                         exact J.met (2, 128, c - 192) (.cons rfl (.cons rfl (.cons rfl (.cons rfl (.cons rfl .nil))))) (fun w hw => ⟨e, hw⟩)))
                    | (try (exfalso; simp only [decide_eq_true_eq, decide_eq_false_iff_not] at *; omega)
                       all_goals (
                         have e : rrN c = (3, 2048, c - 224) := by
                           unfold rrN
                           simp only [decide_eq_true_eq, decide_eq_false_iff_not] at *
                           first
                           | (rw [if_pos (by omega)]; done)
                           | (rw [if_neg (by omega), if_pos (by omega)]; done)
                           | (rw [if_neg (by omega), if_neg (by omega), if_pos (by omega)]; done)
                           | (rw [if_neg (by omega), if_neg (by omega), if_neg (by omega)]; done)
                         exact J.met (3, 2048, c - 224) (.cons rfl (.cons rfl (.cons rfl (.cons rfl (.cons rfl .nil))))) (fun w hw => ⟨e, hw⟩)))
                    | (try (exfalso; simp only [decide_eq_true_eq, decide_eq_false_iff_not] at *; omega)
                       all_goals (
                         have e : rrN c = (4, 65536, c - 240) := by
                           unfold rrN
                           simp only [decide_eq_true_eq, decide_eq_false_iff_not] at *
                           first
                           | (rw [if_pos (by omega)]; done)
                           | (rw [if_neg (by omega), if_pos (by omega)]; done)
                           | (rw [if_neg (by omega), if_neg (by omega), if_pos (by omega)]; done)
                           | (rw [if_neg (by omega), if_neg (by omega), if_neg (by omega)]; done)
                         exact J.met (4, 65536, c - 240) (.cons rfl (.cons rfl (.cons rfl (.cons rfl (.cons rfl .nil))))) (fun w hw => ⟨e, hw⟩)))
                    | (try (exfalso; simp only [decide_eq_true_eq, decide_eq_false_iff_not] at *; omega)
                       all_goals (
                         have e : rrN c = (0, 0, 0) := by
                           unfold rrN
                           simp only [decide_eq_true_eq, decide_eq_false_iff_not] at *
                           first
                           | (rw [if_pos (by omega)]; done)
                           | (rw [if_neg (by omega), if_pos (by omega)]; done)
                           | (rw [if_neg (by omega), if_neg (by omega), if_pos (by omega)]; done)
                           | (rw [if_neg (by omega), if_neg (by omega), if_neg (by omega)]; done)
                         exact J.met (0, 0, 0) (.cons rfl (.cons rfl (.cons rfl (.cons rfl (.cons rfl .nil))))) (fun w hw => ⟨e, hw⟩)))
                · skip
                  refine J.skip ?_
                  refine J.blockN ?_
                  refine J.thenN ?_
                  first
                    | (try (exfalso; simp only [decide_eq_true_eq, decide_eq_false_iff_not] at *; omega)
                       all_goals (
                         have e : rrN c = (2, 128, c - 192) := by
                           unfold rrN
                           simp only [decide_eq_true_eq, decide_eq_false_iff_not] at *
                           first
                           | (rw [if_pos (by omega)]; done)
                           | (rw [if_neg (by omega), if_pos (by omega)]; done)
                           | (rw [if_neg (by omega), if_neg (by omega), if_pos (by omega)]; done)
                           | (rw [if_neg (by omega), if_neg (by omega), if_neg (by omega)]; done)
                         exact J.met (2, 128, c - 192) (.cons rfl (.cons rfl (.cons rfl (.cons rfl (.cons rfl .nil))))) (fun w hw => ⟨e, hw⟩)))
                    | (try (exfalso; simp only [decide_eq_true_eq, decide_eq_false_iff_not] at *; omega)
                       all_goals (
                         have e : rrN c = (3, 2048, c - 224) := by
                           unfold rrN
                           simp only [decide_eq_true_eq, decide_eq_false_iff_not] at *
                           first
                           | (rw [if_pos (by omega)]; done)
                           | (rw [if_neg (by omega), if_pos (by omega)]; done)
                           | (rw [if_neg (by omega), if_neg (by omega), if_pos (by omega)]; done)
                           | (rw [if_neg (by omega), if_neg (by omega), if_neg (by omega)]; done)
                         exact J.met (3, 2048, c - 224) (.cons rfl (.cons rfl (.cons rfl (.cons rfl (.cons rfl .nil))))) (fun w hw => ⟨e, hw⟩)))
                    | (try (exfalso; simp only [decide_eq_true_eq, decide_eq_false_iff_not] at *; omega)
                       all_goals (
                         have e : rrN c = (4, 65536, c - 240) := by
                           unfold rrN
                           simp only [decide_eq_true_eq, decide_eq_false_iff_not] at *
                           first
                           | (rw [if_pos (by omega)]; done)
                           | (rw [if_neg (by omega), if_pos (by omega)]; done)
                           | (rw [if_neg (by omega), if_neg (by omega), if_pos (by omega)]; done)
                           | (rw [if_neg (by omega), if_neg (by omega), if_neg (by omega)]; done)
                         exact J.met (4, 65536, c - 240) (.cons rfl (.cons rfl (.cons rfl (.cons rfl (.cons rfl .nil))))) (fun w hw => ⟨e, hw⟩)))
                    | (try (exfalso; simp only [decide_eq_true_eq, decide_eq_false_iff_not] at *; omega)
                       all_goals (
                         have e : rrN c = (0, 0, 0) := by
                           unfold rrN
                           simp only [decide_eq_true_eq, decide_eq_false_iff_not] at *
                           first
                           | (rw [if_pos (by omega)]; done)
                           | (rw [if_neg (by omega), if_pos (by omega)]; done)
                           | (rw [if_neg (by omega), if_neg (by omega), if_pos (by omega)]; done)
                           | (rw [if_neg (by omega), if_neg (by omega), if_neg (by omega)]; done)
                         exact J.met (0, 0, 0) (.cons rfl (.cons rfl (.cons rfl (.cons rfl (.cons rfl .nil))))) (fun w hw => ⟨e, hw⟩)))
              · skip
                refine J.pass rfl rfl ?_
                refine J.pass rfl rfl ?_
                refine J.rd (Rd.pickF rfl rfl) rfl rfl ?_
                refine J.rd (Rd.assign rfl) rfl rfl ?_
                refine J.done ?_
                refine J.thenN ?_
                refine J.condF rfl ?_
                refine J.skip ?_
                refine J.blockN ?_
                refine J.thenN ?_
                first
                  | (try (exfalso; simp only [decide_eq_true_eq, decide_eq_false_iff_not] at *; omega)
                     all_goals (
                       have e : rrN c = (2, 128, c - 192) := by
                         unfold rrN
                         simp only [decide_eq_true_eq, decide_eq_false_iff_not] at *
                         first
                         | (rw [if_pos (by omega)]; done)
                         | (rw [if_neg (by omega), if_pos (by omega)]; done)
                         | (rw [if_neg (by omega), if_neg (by omega), if_pos (by omega)]; done)
                         | (rw [if_neg (by omega), if_neg (by omega), if_neg (by omega)]; done)
                       exact J.met (2, 128, c - 192) (.cons rfl (.cons rfl (.cons rfl (.cons rfl (.cons rfl .nil))))) (fun w hw => ⟨e, hw⟩)))
                  | (try (exfalso; simp only [decide_eq_true_eq, decide_eq_false_iff_not] at *; omega)
                     all_goals (
                       have e : rrN c = (3, 2048, c - 224) := by
                         unfold rrN
                         simp only [decide_eq_true_eq, decide_eq_false_iff_not] at *
                         first
                         | (rw [if_pos (by omega)]; done)
                         | (rw [if_neg (by omega), if_pos (by omega)]; done)
                         | (rw [if_neg (by omega), if_neg (by omega), if_pos (by omega)]; done)
                         | (rw [if_neg (by omega), if_neg (by omega), if_neg (by omega)]; done)
                       exact J.met (3, 2048, c - 224) (.cons rfl (.cons rfl (.cons rfl (.cons rfl (.cons rfl .nil))))) (fun w hw => ⟨e, hw⟩)))
                  | (try (exfalso; simp only [decide_eq_true_eq, decide_eq_false_iff_not] at *; omega)
                     all_goals (
                       have e : rrN c = (4, 65536, c - 240) := by
                         unfold rrN
                         simp only [decide_eq_true_eq, decide_eq_false_iff_not] at *
                         first
                         | (rw [if_pos (by omega)]; done)
                         | (rw [if_neg (by omega), if_pos (by omega)]; done)
                         | (rw [if_neg (by omega), if_neg (by omega), if_pos (by omega)]; done)
                         | (rw [if_neg (by omega), if_neg (by omega), if_neg (by omega)]; done)
                       exact J.met (4, 65536, c - 240) (.cons rfl (.cons rfl (.cons rfl (.cons rfl (.cons rfl .nil))))) (fun w hw => ⟨e, hw⟩)))
                  | (try (exfalso; simp only [decide_eq_true_eq, decide_eq_false_iff_not] at *; omega)
                     all_goals (
                       have e : rrN c = (0, 0, 0) := by
                         unfold rrN
                         simp only [decide_eq_true_eq, decide_eq_false_iff_not] at *
                         first
                         | (rw [if_pos (by omega)]; done)
                         | (rw [if_neg (by omega), if_pos (by omega)]; done)
                         | (rw [if_neg (by omega), if_neg (by omega), if_pos (by omega)]; done)
                         | (rw [if_neg (by omega), if_neg (by omega), if_neg (by omega)]; done)
                       exact J.met (0, 0, 0) (.cons rfl (.cons rfl (.cons rfl (.cons rfl (.cons rfl .nil))))) (fun w hw => ⟨e, hw⟩)))
          · skip
            refine J.pass rfl rfl ?_
            refine J.pass rfl rfl ?_
            refine J.rd (Rd.pickF rfl rfl) rfl rfl ?_
            refine J.rd (Rd.assign rfl) rfl rfl ?_
            refine J.done ?_
            refine J.thenN ?_
            refine J.condF rfl ?_
            refine J.seq ?_
            refine J.region ?_
            refine J.rd (Rd.move rfl) rfl rfl ?_
            refine J.rd (Rd.bin' rfl rfl rfl (fun _ => rfl)) rfl rfl ?_
            refine J.rd (Rd.move rfl) rfl rfl ?_
            refine J.bcase (fun hb8 => ?_) (fun hb8 => ?_)
            · skip
              refine J.rd (Rd.move rfl) rfl rfl ?_
              refine J.rd (Rd.bin' rfl rfl rfl (fun _ => rfl)) rfl rfl ?_
              refine J.rd (Rd.pickT rfl rfl) rfl rfl ?_
              refine J.rd (Rd.assign rfl) rfl rfl ?_
              refine J.done ?_
              refine J.thenN ?_
              refine J.cond rfl (fun hb9 => ?_) (fun hb9 => ?_)
              · skip
                refine J.seq ?_
                refine J.region ?_
                refine J.rd (Rd.assign rfl) rfl rfl ?_
                refine J.done ?_
                refine J.thenN ?_
                refine J.seq ?_
                refine J.region ?_
                refine J.rd (Rd.assign rfl) rfl rfl ?_
                refine J.done ?_
                refine J.thenN ?_
                refine J.region ?_
                refine J.rd (Rd.move rfl) rfl rfl ?_
                refine J.rd (Rd.bin' rfl rfl rfl (fun _ => rfl)) rfl rfl ?_
                first | refine J.val (wI64 ⟨by omega, by omega⟩) ?_ | skip
                refine J.val (show _ = Value.int .i64 ((c - 240 : Nat) : Int) from congrArg (Value.int .i64) (by simp only [decide_eq_true_eq, decide_eq_false_iff_not] at *; omega)) ?_
                refine J.rd (Rd.assign rfl) rfl rfl ?_
                refine J.done ?_
                refine J.blockN ?_
                refine J.thenN ?_
                first
                  | (try (exfalso; simp only [decide_eq_true_eq, decide_eq_false_iff_not] at *; omega)
                     all_goals (
                       have e : rrN c = (2, 128, c - 192) := by
                         unfold rrN
                         simp only [decide_eq_true_eq, decide_eq_false_iff_not] at *
                         first
                         | (rw [if_pos (by omega)]; done)
                         | (rw [if_neg (by omega), if_pos (by omega)]; done)
                         | (rw [if_neg (by omega), if_neg (by omega), if_pos (by omega)]; done)
                         | (rw [if_neg (by omega), if_neg (by omega), if_neg (by omega)]; done)
                       exact J.met (2, 128, c - 192) (.cons rfl (.cons rfl (.cons rfl (.cons rfl (.cons rfl .nil))))) (fun w hw => ⟨e, hw⟩)))
                  | (try (exfalso; simp only [decide_eq_true_eq, decide_eq_false_iff_not] at *; omega)
                     all_goals (
                       have e : rrN c = (3, 2048, c - 224) := by
                         unfold rrN
                         simp only [decide_eq_true_eq, decide_eq_false_iff_not] at *
                         first
                         | (rw [if_pos (by omega)]; done)
                         | (rw [if_neg (by omega), if_pos (by omega)]; done)
                         | (rw [if_neg (by omega), if_neg (by omega), if_pos (by omega)]; done)
                         | (rw [if_neg (by omega), if_neg (by omega), if_neg (by omega)]; done)
                       exact J.met (3, 2048, c - 224) (.cons rfl (.cons rfl (.cons rfl (.cons rfl (.cons rfl .nil))))) (fun w hw => ⟨e, hw⟩)))
                  | (try (exfalso; simp only [decide_eq_true_eq, decide_eq_false_iff_not] at *; omega)
                     all_goals (
                       have e : rrN c = (4, 65536, c - 240) := by
                         unfold rrN
                         simp only [decide_eq_true_eq, decide_eq_false_iff_not] at *
                         first
                         | (rw [if_pos (by omega)]; done)
                         | (rw [if_neg (by omega), if_pos (by omega)]; done)
                         | (rw [if_neg (by omega), if_neg (by omega), if_pos (by omega)]; done)
                         | (rw [if_neg (by omega), if_neg (by omega), if_neg (by omega)]; done)
                       exact J.met (4, 65536, c - 240) (.cons rfl (.cons rfl (.cons rfl (.cons rfl (.cons rfl .nil))))) (fun w hw => ⟨e, hw⟩)))
                  | (try (exfalso; simp only [decide_eq_true_eq, decide_eq_false_iff_not] at *; omega)
                     all_goals (
                       have e : rrN c = (0, 0, 0) := by
                         unfold rrN
                         simp only [decide_eq_true_eq, decide_eq_false_iff_not] at *
                         first
                         | (rw [if_pos (by omega)]; done)
                         | (rw [if_neg (by omega), if_pos (by omega)]; done)
                         | (rw [if_neg (by omega), if_neg (by omega), if_pos (by omega)]; done)
                         | (rw [if_neg (by omega), if_neg (by omega), if_neg (by omega)]; done)
                       exact J.met (0, 0, 0) (.cons rfl (.cons rfl (.cons rfl (.cons rfl (.cons rfl .nil))))) (fun w hw => ⟨e, hw⟩)))
              · skip
                refine J.skip ?_
                refine J.blockN ?_
                refine J.thenN ?_
                first
                  | (try (exfalso; simp only [decide_eq_true_eq, decide_eq_false_iff_not] at *; omega)
                     all_goals (
                       have e : rrN c = (2, 128, c - 192) := by
                         unfold rrN
                         simp only [decide_eq_true_eq, decide_eq_false_iff_not] at *
                         first
                         | (rw [if_pos (by omega)]; done)
                         | (rw [if_neg (by omega), if_pos (by omega)]; done)
                         | (rw [if_neg (by omega), if_neg (by omega), if_pos (by omega)]; done)
                         | (rw [if_neg (by omega), if_neg (by omega), if_neg (by omega)]; done)
                       exact J.met (2, 128, c - 192) (.cons rfl (.cons rfl (.cons rfl (.cons rfl (.cons rfl .nil))))) (fun w hw => ⟨e, hw⟩)))
                  | (try (exfalso; simp only [decide_eq_true_eq, decide_eq_false_iff_not] at *; omega)
                     all_goals (
                       have e : rrN c = (3, 2048, c - 224) := by
                         unfold rrN
                         simp only [decide_eq_true_eq, decide_eq_false_iff_not] at *
                         first
                         | (rw [if_pos (by omega)]; done)
                         | (rw [if_neg (by omega), if_pos (by omega)]; done)
                         | (rw [if_neg (by omega), if_neg (by omega), if_pos (by omega)]; done)
                         | (rw [if_neg (by omega), if_neg (by omega), if_neg (by omega)]; done)
                       exact J.met (3, 2048, c - 224) (.cons rfl (.cons rfl (.cons rfl (.cons rfl (.cons rfl .nil))))) (fun w hw => ⟨e, hw⟩)))
                  | (try (exfalso; simp only [decide_eq_true_eq, decide_eq_false_iff_not] at *; omega)
                     all_goals (
                       have e : rrN c = (4, 65536, c - 240) := by
                         unfold rrN
                         simp only [decide_eq_true_eq, decide_eq_false_iff_not] at *
                         first
                         | (rw [if_pos (by omega)]; done)
                         | (rw [if_neg (by omega), if_pos (by omega)]; done)
                         | (rw [if_neg (by omega), if_neg (by omega), if_pos (by omega)]; done)
                         | (rw [if_neg (by omega), if_neg (by omega), if_neg (by omega)]; done)
                       exact J.met (4, 65536, c - 240) (.cons rfl (.cons rfl (.cons rfl (.cons rfl (.cons rfl .nil))))) (fun w hw => ⟨e, hw⟩)))
                  | (try (exfalso; simp only [decide_eq_true_eq, decide_eq_false_iff_not] at *; omega)
                     all_goals (
                       have e : rrN c = (0, 0, 0) := by
                         unfold rrN
                         simp only [decide_eq_true_eq, decide_eq_false_iff_not] at *
                         first
                         | (rw [if_pos (by omega)]; done)
                         | (rw [if_neg (by omega), if_pos (by omega)]; done)
                         | (rw [if_neg (by omega), if_neg (by omega), if_pos (by omega)]; done)
                         | (rw [if_neg (by omega), if_neg (by omega), if_neg (by omega)]; done)
                       exact J.met (0, 0, 0) (.cons rfl (.cons rfl (.cons rfl (.cons rfl (.cons rfl .nil))))) (fun w hw => ⟨e, hw⟩)))
            · skip
              refine J.pass rfl rfl ?_
              refine J.pass rfl rfl ?_
              refine J.rd (Rd.pickF rfl rfl) rfl rfl ?_
              refine J.rd (Rd.assign rfl) rfl rfl ?_
              refine J.done ?_
              refine J.thenN ?_
              refine J.condF rfl ?_
              refine J.skip ?_
              refine J.blockN ?_
              refine J.thenN ?_
              first
                | (try (exfalso; simp only [decide_eq_true_eq, decide_eq_false_iff_not] at *; omega)
                   all_goals (
                     have e : rrN c = (2, 128, c - 192) := by
                       unfold rrN
                       simp only [decide_eq_true_eq, decide_eq_false_iff_not] at *
                       first
                       | (rw [if_pos (by omega)]; done)
                       | (rw [if_neg (by omega), if_pos (by omega)]; done)
                       | (rw [if_neg (by omega), if_neg (by omega), if_pos (by omega)]; done)
                       | (rw [if_neg (by omega), if_neg (by omega), if_neg (by omega)]; done)
                     exact J.met (2, 128, c - 192) (.cons rfl (.cons rfl (.cons rfl (.cons rfl (.cons rfl .nil))))) (fun w hw => ⟨e, hw⟩)))
                | (try (exfalso; simp only [decide_eq_true_eq, decide_eq_false_iff_not] at *; omega)
                   all_goals (
                     have e : rrN c = (3, 2048, c - 224) := by
                       unfold rrN
                       simp only [decide_eq_true_eq, decide_eq_false_iff_not] at *
                       first
                       | (rw [if_pos (by omega)]; done)
                       | (rw [if_neg (by omega), if_pos (by omega)]; done)
                       | (rw [if_neg (by omega), if_neg (by omega), if_pos (by omega)]; done)
                       | (rw [if_neg (by omega), if_neg (by omega), if_neg (by omega)]; done)
                     exact J.met (3, 2048, c - 224) (.cons rfl (.cons rfl (.cons rfl (.cons rfl (.cons rfl .nil))))) (fun w hw => ⟨e, hw⟩)))
                | (try (exfalso; simp only [decide_eq_true_eq, decide_eq_false_iff_not] at *; omega)
                   all_goals (
                     have e : rrN c = (4, 65536, c - 240) := by
                       unfold rrN
                       simp only [decide_eq_true_eq, decide_eq_false_iff_not] at *
                       first
                       | (rw [if_pos (by omega)]; done)
                       | (rw [if_neg (by omega), if_pos (by omega)]; done)
                       | (rw [if_neg (by omega), if_neg (by omega), if_pos (by omega)]; done)
                       | (rw [if_neg (by omega), if_neg (by omega), if_neg (by omega)]; done)
                     exact J.met (4, 65536, c - 240) (.cons rfl (.cons rfl (.cons rfl (.cons rfl (.cons rfl .nil))))) (fun w hw => ⟨e, hw⟩)))
                | (try (exfalso; simp only [decide_eq_true_eq, decide_eq_false_iff_not] at *; omega)
                   all_goals (
                     have e : rrN c = (0, 0, 0) := by
                       unfold rrN
                       simp only [decide_eq_true_eq, decide_eq_false_iff_not] at *
                       first
                       | (rw [if_pos (by omega)]; done)
                       | (rw [if_neg (by omega), if_pos (by omega)]; done)
                       | (rw [if_neg (by omega), if_neg (by omega), if_pos (by omega)]; done)
                       | (rw [if_neg (by omega), if_neg (by omega), if_neg (by omega)]; done)
                     exact J.met (0, 0, 0) (.cons rfl (.cons rfl (.cons rfl (.cons rfl (.cons rfl .nil))))) (fun w hw => ⟨e, hw⟩)))
      · skip
        refine J.pass rfl rfl ?_
        refine J.pass rfl rfl ?_
        refine J.rd (Rd.pickF rfl rfl) rfl rfl ?_
        refine J.rd (Rd.assign rfl) rfl rfl ?_
        refine J.done ?_
        refine J.thenN ?_
        refine J.condF rfl ?_
        refine J.seq ?_
        refine J.region ?_
        refine J.rd (Rd.move rfl) rfl rfl ?_
        refine J.rd (Rd.bin' rfl rfl rfl (fun _ => rfl)) rfl rfl ?_
        refine J.rd (Rd.move rfl) rfl rfl ?_
        refine J.bcase (fun hb10 => ?_) (fun hb10 => ?_)
        · skip
          refine J.rd (Rd.move rfl) rfl rfl ?_
          refine J.rd (Rd.bin' rfl rfl rfl (fun _ => rfl)) rfl rfl ?_
          refine J.rd (Rd.pickT rfl rfl) rfl rfl ?_
          refine J.rd (Rd.assign rfl) rfl rfl ?_
          refine J.done ?_
          refine J.thenN ?_
          refine J.cond rfl (fun hb11 => ?_) (fun hb11 => ?_)
          · skip
            refine J.seq ?_
            refine J.region ?_
            refine J.rd (Rd.assign rfl) rfl rfl ?_
            refine J.done ?_
            refine J.thenN ?_
            refine J.seq ?_
            refine J.region ?_
            refine J.rd (Rd.assign rfl) rfl rfl ?_
            refine J.done ?_
            refine J.thenN ?_
            refine J.region ?_
            refine J.rd (Rd.move rfl) rfl rfl ?_
            refine J.rd (Rd.bin' rfl rfl rfl (fun _ => rfl)) rfl rfl ?_
            first | refine J.val (wI64 ⟨by omega, by omega⟩) ?_ | skip
            refine J.val (show _ = Value.int .i64 ((c - 224 : Nat) : Int) from congrArg (Value.int .i64) (by simp only [decide_eq_true_eq, decide_eq_false_iff_not] at *; omega)) ?_
            refine J.rd (Rd.assign rfl) rfl rfl ?_
            refine J.done ?_
            refine J.blockN ?_
            refine J.thenN ?_
            first
              | (try (exfalso; simp only [decide_eq_true_eq, decide_eq_false_iff_not] at *; omega)
                 all_goals (
                   have e : rrN c = (2, 128, c - 192) := by
                     unfold rrN
                     simp only [decide_eq_true_eq, decide_eq_false_iff_not] at *
                     first
                     | (rw [if_pos (by omega)]; done)
                     | (rw [if_neg (by omega), if_pos (by omega)]; done)
                     | (rw [if_neg (by omega), if_neg (by omega), if_pos (by omega)]; done)
                     | (rw [if_neg (by omega), if_neg (by omega), if_neg (by omega)]; done)
                   exact J.met (2, 128, c - 192) (.cons rfl (.cons rfl (.cons rfl (.cons rfl (.cons rfl .nil))))) (fun w hw => ⟨e, hw⟩)))
              | (try (exfalso; simp only [decide_eq_true_eq, decide_eq_false_iff_not] at *; omega)
                 all_goals (
                   have e : rrN c = (3, 2048, c - 224) := by
                     unfold rrN
                     simp only [decide_eq_true_eq, decide_eq_false_iff_not] at *
                     first
                     | (rw [if_pos (by omega)]; done)
                     | (rw [if_neg (by omega), if_pos (by omega)]; done)
                     | (rw [if_neg (by omega), if_neg (by omega), if_pos (by omega)]; done)
                     | (rw [if_neg (by omega), if_neg (by omega), if_neg (by omega)]; done)
                   exact J.met (3, 2048, c - 224) (.cons rfl (.cons rfl (.cons rfl (.cons rfl (.cons rfl .nil))))) (fun w hw => ⟨e, hw⟩)))
              | (try (exfalso; simp only [decide_eq_true_eq, decide_eq_false_iff_not] at *; omega)
                 all_goals (
                   have e : rrN c = (4, 65536, c - 240) := by
                     unfold rrN
                     simp only [decide_eq_true_eq, decide_eq_false_iff_not] at *
                     first
                     | (rw [if_pos (by omega)]; done)
                     | (rw [if_neg (by omega), if_pos (by omega)]; done)
                     | (rw [if_neg (by omega), if_neg (by omega), if_pos (by omega)]; done)
                     | (rw [if_neg (by omega), if_neg (by omega), if_neg (by omega)]; done)
                   exact J.met (4, 65536, c - 240) (.cons rfl (.cons rfl (.cons rfl (.cons rfl (.cons rfl .nil))))) (fun w hw => ⟨e, hw⟩)))
              | (try (exfalso; simp only [decide_eq_true_eq, decide_eq_false_iff_not] at *; omega)
                 all_goals (
                   have e : rrN c = (0, 0, 0) := by
                     unfold rrN
                     simp only [decide_eq_true_eq, decide_eq_false_iff_not] at *
                     first
                     | (rw [if_pos (by omega)]; done)
                     | (rw [if_neg (by omega), if_pos (by omega)]; done)
                     | (rw [if_neg (by omega), if_neg (by omega), if_pos (by omega)]; done)
                     | (rw [if_neg (by omega), if_neg (by omega), if_neg (by omega)]; done)
                   exact J.met (0, 0, 0) (.cons rfl (.cons rfl (.cons rfl (.cons rfl (.cons rfl .nil))))) (fun w hw => ⟨e, hw⟩)))
          · skip
            refine J.seq ?_
            refine J.region ?_
            refine J.rd (Rd.move rfl) rfl rfl ?_
            refine J.rd (Rd.bin' rfl rfl rfl (fun _ => rfl)) rfl rfl ?_
            refine J.rd (Rd.move rfl) rfl rfl ?_
            refine J.bcase (fun hb12 => ?_) (fun hb12 => ?_)
            · skip
              refine J.rd (Rd.move rfl) rfl rfl ?_
              refine J.rd (Rd.bin' rfl rfl rfl (fun _ => rfl)) rfl rfl ?_
              refine J.rd (Rd.pickT rfl rfl) rfl rfl ?_
              refine J.rd (Rd.assign rfl) rfl rfl ?_
              refine J.done ?_
              refine J.thenN ?_
              refine J.cond rfl (fun hb13 => ?_) (fun hb13 => ?_)
              · skip
                refine J.seq ?_
                refine J.region ?_
                refine J.rd (Rd.assign rfl) rfl rfl ?_
                refine J.done ?_
                refine J.thenN ?_
                refine J.seq ?_
                refine J.region ?_
                refine J.rd (Rd.assign rfl) rfl rfl ?_
                refine J.done ?_
                refine J.thenN ?_
                refine J.region ?_
                refine J.rd (Rd.move rfl) rfl rfl ?_
                refine J.rd (Rd.bin' rfl rfl rfl (fun _ => rfl)) rfl rfl ?_
                first | refine J.val (wI64 ⟨by omega, by omega⟩) ?_ | skip
                refine J.val (show _ = Value.int .i64 ((c - 240 : Nat) : Int) from congrArg (Value.int .i64) (by simp only [decide_eq_true_eq, decide_eq_false_iff_not] at *; omega)) ?_
                refine J.rd (Rd.assign rfl) rfl rfl ?_
                refine J.done ?_
                refine J.blockN ?_
                refine J.thenN ?_
                first
                  | (try (exfalso; simp only [decide_eq_true_eq, decide_eq_false_iff_not] at *; omega)
                     all_goals (
                       have e : rrN c = (2, 128, c - 192) := by
                         unfold rrN
                         simp only [decide_eq_true_eq, decide_eq_false_iff_not] at *
                         first
                         | (rw [if_pos (by omega)]; done)
                         | (rw [if_neg (by omega), if_pos (by omega)]; done)
                         | (rw [if_neg (by omega), if_neg (by omega), if_pos (by omega)]; done)
                         | (rw [if_neg (by omega), if_neg (by omega), if_neg (by omega)]; done)
                       exact J.met (2, 128, c - 192) (.cons rfl (.cons rfl (.cons rfl (.cons rfl (.cons rfl .nil))))) (fun w hw => ⟨e, hw⟩)))
                  | (try (exfalso; simp only [decide_eq_true_eq, decide_eq_false_iff_not] at *; omega)
                     all_goals (
                       have e : rrN c = (3, 2048, c - 224) := by
                         unfold rrN
                         simp only [decide_eq_true_eq, decide_eq_false_iff_not] at *
                         first
                         | (rw [if_pos (by omega)]; done)
                         | (rw [if_neg (by omega), if_pos (by omega)]; done)
                         | (rw [if_neg (by omega), if_neg (by omega), if_pos (by omega)]; done)
                         | (rw [if_neg (by omega), if_neg (by omega), if_neg (by omega)]; done)
                       exact J.met (3, 2048, c - 224) (.cons rfl (.cons rfl (.cons rfl (.cons rfl (.cons rfl .nil))))) (fun w hw => ⟨e, hw⟩)))
                  | (try (exfalso; simp only [decide_eq_true_eq, decide_eq_false_iff_not] at *; omega)
                     all_goals (
                       have e : rrN c = (4, 65536, c - 240) := by
                         unfold rrN
                         simp only [decide_eq_true_eq, decide_eq_false_iff_not] at *
                         first
                         | (rw [if_pos (by omega)]; done)
                         | (rw [if_neg (by omega), if_pos (by omega)]; done)
                         | (rw [if_neg (by omega), if_neg (by omega), if_pos (by omega)]; done)
                         | (rw [if_neg (by omega), if_neg (by omega), if_neg (by omega)]; done)
                       exact J.met (4, 65536, c - 240) (.cons rfl (.cons rfl (.cons rfl (.cons rfl (.cons rfl .nil))))) (fun w hw => ⟨e, hw⟩)))
                  | (try (exfalso; simp only [decide_eq_true_eq, decide_eq_false_iff_not] at *; omega)
                     all_goals (
                       have e : rrN c = (0, 0, 0) := by
                         unfold rrN
                         simp only [decide_eq_true_eq, decide_eq_false_iff_not] at *
                         first
                         | (rw [if_pos (by omega)]; done)
                         | (rw [if_neg (by omega), if_pos (by omega)]; done)
                         | (rw [if_neg (by omega), if_neg (by omega), if_pos (by omega)]; done)
                         | (rw [if_neg (by omega), if_neg (by omega), if_neg (by omega)]; done)
                       exact J.met (0, 0, 0) (.cons rfl (.cons rfl (.cons rfl (.cons rfl (.cons rfl .nil))))) (fun w hw => ⟨e, hw⟩)))
              · skip
                refine J.skip ?_
                refine J.blockN ?_
                refine J.thenN ?_
                first
                  | (try (exfalso; simp only [decide_eq_true_eq, decide_eq_false_iff_not] at *; omega)
                     all_goals (
                       have e : rrN c = (2, 128, c - 192) := by
                         unfold rrN
                         simp only [decide_eq_true_eq, decide_eq_false_iff_not] at *
                         first
                         | (rw [if_pos (by omega)]; done)
                         | (rw [if_neg (by omega), if_pos (by omega)]; done)
                         | (rw [if_neg (by omega), if_neg (by omega), if_pos (by omega)]; done)
                         | (rw [if_neg (by omega), if_neg (by omega), if_neg (by omega)]; done)
                       exact J.met (2, 128, c - 192) (.cons rfl (.cons rfl (.cons rfl (.cons rfl (.cons rfl .nil))))) (fun w hw => ⟨e, hw⟩)))
                  | (try (exfalso; simp only [decide_eq_true_eq, decide_eq_false_iff_not] at *; omega)
                     all_goals (
                       have e : rrN c = (3, 2048, c - 224) := by
                         unfold rrN
                         simp only [decide_eq_true_eq, decide_eq_false_iff_not] at *
                         first
                         | (rw [if_pos (by omega)]; done)
                         | (rw [if_neg (by omega), if_pos (by omega)]; done)
                         | (rw [if_neg (by omega), if_neg (by omega), if_pos (by omega)]; done)
                         | (rw [if_neg (by omega), if_neg (by omega), if_neg (by omega)]; done)
                       exact J.met (3, 2048, c - 224) (.cons rfl (.cons rfl (.cons rfl (.cons rfl (.cons rfl .nil))))) (fun w hw => ⟨e, hw⟩)))
                  | (try (exfalso; simp only [decide_eq_true_eq, decide_eq_false_iff_not] at *; omega)
                     all_goals (
                       have e : rrN c = (4, 65536, c - 240) := by
                         unfold rrN
                         simp only [decide_eq_true_eq, decide_eq_false_iff_not] at *
                         first
                         | (rw [if_pos (by omega)]; done)
                         | (rw [if_neg (by omega), if_pos (by omega)]; done)
                         | (rw [if_neg (by omega), if_neg (by omega), if_pos (by omega)]; done)
                         | (rw [if_neg (by omega), if_neg (by omega), if_neg (by omega)]; done)
                       exact J.met (4, 65536, c - 240) (.cons rfl (.cons rfl (.cons rfl (.cons rfl (.cons rfl .nil))))) (fun w hw => ⟨e, hw⟩)))
                  | (try (exfalso; simp only [decide_eq_true_eq, decide_eq_false_iff_not] at *; omega)
                     all_goals (
                       have e : rrN c = (0, 0, 0) := by
                         unfold rrN
                         simp only [decide_eq_true_eq, decide_eq_false_iff_not] at *
                         first
                         | (rw [if_pos (by omega)]; done)
                         | (rw [if_neg (by omega), if_pos (by omega)]; done)
                         | (rw [if_neg (by omega), if_neg (by omega), if_pos (by omega)]; done)
                         | (rw [if_neg (by omega), if_neg (by omega), if_neg (by omega)]; done)
                       exact J.met (0, 0, 0) (.cons rfl (.cons rfl (.cons rfl (.cons rfl (.cons rfl .nil))))) (fun w hw => ⟨e, hw⟩)))
            · skip
              refine J.pass rfl rfl ?_
              refine J.pass rfl rfl ?_
              refine J.rd (Rd.pickF rfl rfl) rfl rfl ?_
              refine J.rd (Rd.assign rfl) rfl rfl ?_
              refine J.done ?_
              refine J.thenN ?_
              refine J.condF rfl ?_
              refine J.skip ?_
              refine J.blockN ?_
              refine J.thenN ?_
              first
                | (try (exfalso; simp only [decide_eq_true_eq, decide_eq_false_iff_not] at *; omega)
                   all_goals (
                     have e : rrN c = (2, 128, c - 192) := by
                       unfold rrN
                       simp only [decide_eq_true_eq, decide_eq_false_iff_not] at *
                       first
                       | (rw [if_pos (by omega)]; done)
                       | (rw [if_neg (by omega), if_pos (by omega)]; done)
                       | (rw [if_neg (by omega), if_neg (by omega), if_pos (by omega)]; done)
                       | (rw [if_neg (by omega), if_neg (by omega), if_neg (by omega)]; done)
                     exact J.met (2, 128, c - 192) (.cons rfl (.cons rfl (.cons rfl (.cons rfl (.cons rfl .nil))))) (fun w hw => ⟨e, hw⟩)))
                | (try (exfalso; simp only [decide_eq_true_eq, decide_eq_false_iff_not] at *; omega)
                   all_goals (
                     have e : rrN c = (3, 2048, c - 224) := by
                       unfold rrN
                       simp only [decide_eq_true_eq, decide_eq_false_iff_not] at *
                       first
                       | (rw [if_pos (by omega)]; done)
                       | (rw [if_neg (by omega), if_pos (by omega)]; done)
                       | (rw [if_neg (by omega), if_neg (by omega), if_pos (by omega)]; done)
                       | (rw [if_neg (by omega), if_neg (by omega), if_neg (by omega)]; done)
                     exact J.met (3, 2048, c - 224) (.cons rfl (.cons rfl (.cons rfl (.cons rfl (.cons rfl .nil))))) (fun w hw => ⟨e, hw⟩)))
                | (try (exfalso; simp only [decide_eq_true_eq, decide_eq_false_iff_not] at *; omega)
                   all_goals (
                     have e : rrN c = (4, 65536, c - 240) := by
                       unfold rrN
                       simp only [decide_eq_true_eq, decide_eq_false_iff_not] at *
                       first
                       | (rw [if_pos (by omega)]; done)
                       | (rw [if_neg (by omega), if_pos (by omega)]; done)
                       | (rw [if_neg (by omega), if_neg (by omega), if_pos (by omega)]; done)
                       | (rw [if_neg (by omega), if_neg (by omega), if_neg (by omega)]; done)
                     exact J.met (4, 65536, c - 240) (.cons rfl (.cons rfl (.cons rfl (.cons rfl (.cons rfl .nil))))) (fun w hw => ⟨e, hw⟩)))
                | (try (exfalso; simp only [decide_eq_true_eq, decide_eq_false_iff_not] at *; omega)
                   all_goals (
                     have e : rrN c = (0, 0, 0) := by
                       unfold rrN
                       simp only [decide_eq_true_eq, decide_eq_false_iff_not] at *
                       first
                       | (rw [if_pos (by omega)]; done)
                       | (rw [if_neg (by omega), if_pos (by omega)]; done)
                       | (rw [if_neg (by omega), if_neg (by omega), if_pos (by omega)]; done)
                       | (rw [if_neg (by omega), if_neg (by omega), if_neg (by omega)]; done)
                     exact J.met (0, 0, 0) (.cons rfl (.cons rfl (.cons rfl (.cons rfl (.cons rfl .nil))))) (fun w hw => ⟨e, hw⟩)))
        · skip
          refine J.pass rfl rfl ?_
          refine J.pass rfl rfl ?_
          refine J.rd (Rd.pickF rfl rfl) rfl rfl ?_
          refine J.rd (Rd.assign rfl) rfl rfl ?_
          refine J.done ?_
          refine J.thenN ?_
          refine J.condF rfl ?_
          refine J.seq ?_
          refine J.region ?_
          refine J.rd (Rd.move rfl) rfl rfl ?_
          refine J.rd (Rd.bin' rfl rfl rfl (fun _ => rfl)) rfl rfl ?_
          refine J.rd (Rd.move rfl) rfl rfl ?_
          refine J.bcase (fun hb14 => ?_) (fun hb14 => ?_)
          · skip
            refine J.rd (Rd.move rfl) rfl rfl ?_
            refine J.rd (Rd.bin' rfl rfl rfl (fun _ => rfl)) rfl rfl ?_
            refine J.rd (Rd.pickT rfl rfl) rfl rfl ?_
            refine J.rd (Rd.assign rfl) rfl rfl ?_
            refine J.done ?_
            refine J.thenN ?_
            refine J.cond rfl (fun hb15 => ?_) (fun hb15 => ?_)
            · skip
              refine J.seq ?_
              refine J.region ?_
              refine J.rd (Rd.assign rfl) rfl rfl ?_
              refine J.done ?_
              refine J.thenN ?_
              refine J.seq ?_
              refine J.region ?_
              refine J.rd (Rd.assign rfl) rfl rfl ?_
              refine J.done ?_
              refine J.thenN ?_
              refine J.region ?_
              refine J.rd (Rd.move rfl) rfl rfl ?_
              refine J.rd (Rd.bin' rfl rfl rfl (fun _ => rfl)) rfl rfl ?_
              first | refine J.val (wI64 ⟨by omega, by omega⟩) ?_ | skip
              refine J.val (show _ = Value.int .i64 ((c - 240 : Nat) : Int) from congrArg (Value.int .i64) (by simp only [decide_eq_true_eq, decide_eq_false_iff_not] at *; omega)) ?_
              refine J.rd (Rd.assign rfl) rfl rfl ?_
              refine J.done ?_
              refine J.blockN ?_
              refine J.thenN ?_
              first
                | (try (exfalso; simp only [decide_eq_true_eq, decide_eq_false_iff_not] at *; omega)
                   all_goals (
                     have e : rrN c = (2, 128, c - 192) := by
                       unfold rrN
                       simp only [decide_eq_true_eq, decide_eq_false_iff_not] at *
                       first
                       | (rw [if_pos (by omega)]; done)
                       | (rw [if_neg (by omega), if_pos (by omega)]; done)
                       | (rw [if_neg (by omega), if_neg (by omega), if_pos (by omega)]; done)
                       | (rw [if_neg (by omega), if_neg (by omega), if_neg (by omega)]; done)
                     exact J.met (2, 128, c - 192) (.cons rfl (.cons rfl (.cons rfl (.cons rfl (.cons rfl .nil))))) (fun w hw => ⟨e, hw⟩)))
                | (try (exfalso; simp only [decide_eq_true_eq, decide_eq_false_iff_not] at *; omega)
                   all_goals (
                     have e : rrN c = (3, 2048, c - 224) := by
                       unfold rrN
                       simp only [decide_eq_true_eq, decide_eq_false_iff_not] at *
                       first
                       | (rw [if_pos (by omega)]; done)
                       | (rw [if_neg (by omega), if_pos (by omega)]; done)
                       | (rw [if_neg (by omega), if_neg (by omega), if_pos (by omega)]; done)
                       | (rw [if_neg (by omega), if_neg (by omega), if_neg (by omega)]; done)
                     exact J.met (3, 2048, c - 224) (.cons rfl (.cons rfl (.cons rfl (.cons rfl (.cons rfl .nil))))) (fun w hw => ⟨e, hw⟩)))
                | (try (exfalso; simp only [decide_eq_true_eq, decide_eq_false_iff_not] at *; omega)
                   all_goals (
                     have e : rrN c = (4, 65536, c - 240) := by
                       unfold rrN
                       simp only [decide_eq_true_eq, decide_eq_false_iff_not] at *
                       first
                       | (rw [if_pos (by omega)]; done)
                       | (rw [if_neg (by omega), if_pos (by omega)]; done)
                       | (rw [if_neg (by omega), if_neg (by omega), if_pos (by omega)]; done)
                       | (rw [if_neg (by omega), if_neg (by omega), if_neg (by omega)]; done)
                     exact J.met (4, 65536, c - 240) (.cons rfl (.cons rfl (.cons rfl (.cons rfl (.cons rfl .nil))))) (fun w hw => ⟨e, hw⟩)))
                | (try (exfalso; simp only [decide_eq_true_eq, decide_eq_false_iff_not] at *; omega)
                   all_goals (
                     have e : rrN c = (0, 0, 0) := by
                       unfold rrN
                       simp only [decide_eq_true_eq, decide_eq_false_iff_not] at *
                       first
                       | (rw [if_pos (by omega)]; done)
                       | (rw [if_neg (by omega), if_pos (by omega)]; done)
                       | (rw [if_neg (by omega), if_neg (by omega), if_pos (by omega)]; done)
                       | (rw [if_neg (by omega), if_neg (by omega), if_neg (by omega)]; done)
                     exact J.met (0, 0, 0) (.cons rfl (.cons rfl (.cons rfl (.cons rfl (.cons rfl .nil))))) (fun w hw => ⟨e, hw⟩)))
            · skip
              refine J.skip ?_
              refine J.blockN ?_
              refine J.thenN ?_
              first
                | (try (exfalso; simp only [decide_eq_true_eq, decide_eq_false_iff_not] at *; omega)
                   all_goals (
                     have e : rrN c = (2, 128, c - 192) := by
                       unfold rrN
                       simp only [decide_eq_true_eq, decide_eq_false_iff_not] at *
                       first
                       | (rw [if_pos (by omega)]; done)
                       | (rw [if_neg (by omega), if_pos (by omega)]; done)
                       | (rw [if_neg (by omega), if_neg (by omega), if_pos (by omega)]; done)
                       | (rw [if_neg (by omega), if_neg (by omega), if_neg (by omega)]; done)
                     exact J.met (2, 128, c - 192) (.cons rfl (.cons rfl (.cons rfl (.cons rfl (.cons rfl .nil))))) (fun w hw => ⟨e, hw⟩)))
                | (try (exfalso; simp only [decide_eq_true_eq, decide_eq_false_iff_not] at *; omega)
                   all_goals (
                     have e : rrN c = (3, 2048, c - 224) := by
                       unfold rrN
                       simp only [decide_eq_true_eq, decide_eq_false_iff_not] at *
                       first
                       | (rw [if_pos (by omega)]; done)
                       | (rw [if_neg (by omega), if_pos (by omega)]; done)
                       | (rw [if_neg (by omega), if_neg (by omega), if_pos (by omega)]; done)
                       | (rw [if_neg (by omega), if_neg (by omega), if_neg (by omega)]; done)
                     exact J.met (3, 2048, c - 224) (.cons rfl (.cons rfl (.cons rfl (.cons rfl (.cons rfl .nil))))) (fun w hw => ⟨e, hw⟩)))
                | (try (exfalso; simp only [decide_eq_true_eq, decide_eq_false_iff_not] at *; omega)
                   all_goals (
                     have e : rrN c = (4, 65536, c - 240) := by
                       unfold rrN
                       simp only [decide_eq_true_eq, decide_eq_false_iff_not] at *
                       first
                       | (rw [if_pos (by omega)]; done)
                       | (rw [if_neg (by omega), if_pos (by omega)]; done)
                       | (rw [if_neg (by omega), if_neg (by omega), if_pos (by omega)]; done)
                       | (rw [if_neg (by omega), if_neg (by omega), if_neg (by omega)]; done)
                     exact J.met (4, 65536, c - 240) (.cons rfl (.cons rfl (.cons rfl (.cons rfl (.cons rfl .nil))))) (fun w hw => ⟨e, hw⟩)))
                | (try (exfalso; simp only [decide_eq_true_eq, decide_eq_false_iff_not] at *; omega)
                   all_goals (
                     have e : rrN c = (0, 0, 0) := by
                       unfold rrN
                       simp only [decide_eq_true_eq, decide_eq_false_iff_not] at *
                       first
                       | (rw [if_pos (by omega)]; done)
                       | (rw [if_neg (by omega), if_pos (by omega)]; done)
                       | (rw [if_neg (by omega), if_neg (by omega), if_pos (by omega)]; done)
                       | (rw [if_neg (by omega), if_neg (by omega), if_neg (by omega)]; done)
                     exact J.met (0, 0, 0) (.cons rfl (.cons rfl (.cons rfl (.cons rfl (.cons rfl .nil))))) (fun w hw => ⟨e, hw⟩)))
          · skip
            refine J.pass rfl rfl ?_
            refine J.pass rfl rfl ?_
            refine J.rd (Rd.pickF rfl rfl) rfl rfl ?_
            refine J.rd (Rd.assign rfl) rfl rfl ?_
            refine J.done ?_
            refine J.thenN ?_
            refine J.condF rfl ?_
            refine J.skip ?_
            refine J.blockN ?_
            refine J.thenN ?_
            first
              | (try (exfalso; simp only [decide_eq_true_eq, decide_eq_false_iff_not] at *; omega)
                 all_goals (
                   have e : rrN c = (2, 128, c - 192) := by
                     unfold rrN
                     simp only [decide_eq_true_eq, decide_eq_false_iff_not] at *
                     first
                     | (rw [if_pos (by omega)]; done)
                     | (rw [if_neg (by omega), if_pos (by omega)]; done)
                     | (rw [if_neg (by omega), if_neg (by omega), if_pos (by omega)]; done)
                     | (rw [if_neg (by omega), if_neg (by omega), if_neg (by omega)]; done)
                   exact J.met (2, 128, c - 192) (.cons rfl (.cons rfl (.cons rfl (.cons rfl (.cons rfl .nil))))) (fun w hw => ⟨e, hw⟩)))
              | (try (exfalso; simp only [decide_eq_true_eq, decide_eq_false_iff_not] at *; omega)
                 all_goals (
                   have e : rrN c = (3, 2048, c - 224) := by
                     unfold rrN
                     simp only [decide_eq_true_eq, decide_eq_false_iff_not] at *
                     first
                     | (rw [if_pos (by omega)]; done)
                     | (rw [if_neg (by omega), if_pos (by omega)]; done)
                     | (rw [if_neg (by omega), if_neg (by omega), if_pos (by omega)]; done)
                     | (rw [if_neg (by omega), if_neg (by omega), if_neg (by omega)]; done)
                   exact J.met (3, 2048, c - 224) (.cons rfl (.cons rfl (.cons rfl (.cons rfl (.cons rfl .nil))))) (fun w hw => ⟨e, hw⟩)))
              | (try (exfalso; simp only [decide_eq_true_eq, decide_eq_false_iff_not] at *; omega)
                 all_goals (
                   have e : rrN c = (4, 65536, c - 240) := by
                     unfold rrN
                     simp only [decide_eq_true_eq, decide_eq_false_iff_not] at *
                     first
                     | (rw [if_pos (by omega)]; done)
                     | (rw [if_neg (by omega), if_pos (by omega)]; done)
                     | (rw [if_neg (by omega), if_neg (by omega), if_pos (by omega)]; done)
                     | (rw [if_neg (by omega), if_neg (by omega), if_neg (by omega)]; done)
                   exact J.met (4, 65536, c - 240) (.cons rfl (.cons rfl (.cons rfl (.cons rfl (.cons rfl .nil))))) (fun w hw => ⟨e, hw⟩)))
              | (try (exfalso; simp only [decide_eq_true_eq, decide_eq_false_iff_not] at *; omega)
                 all_goals (
                   have e : rrN c = (0, 0, 0) := by
                     unfold rrN
                     simp only [decide_eq_true_eq, decide_eq_false_iff_not] at *
                     first
                     | (rw [if_pos (by omega)]; done)
                     | (rw [if_neg (by omega), if_pos (by omega)]; done)
                     | (rw [if_neg (by omega), if_neg (by omega), if_pos (by omega)]; done)
                     | (rw [if_neg (by omega), if_neg (by omega), if_neg (by omega)]; done)
                   exact J.met (0, 0, 0) (.cons rfl (.cons rfl (.cons rfl (.cons rfl (.cons rfl .nil))))) (fun w hw => ⟨e, hw⟩)))
    · rintro ⟨n, least, r0⟩
      refine J.andC fun hn => ?_
      obtain ⟨hn4, hr0, hl0⟩ := rrN_lt hn
      simp only
      refine J.seq ?_
      refine J.seq ?_
      refine J.region ?_
      refine J.rd (Rd.move rfl) rfl rfl ?_
      refine J.rd (Rd.bin' rfl rfl rfl (fun _ => rfl)) rfl rfl ?_
      refine J.rd (Rd.move rfl) rfl rfl ?_
      refine J.bcase (fun hb16 => ?_) (fun hb16 => ?_)
      · skip
        refine J.pass rfl rfl ?_
        refine J.pass rfl rfl ?_
        refine J.pass rfl rfl ?_
        refine J.pass rfl rfl ?_
        refine J.rd (Rd.pickT rfl rfl) rfl rfl ?_
        refine J.done ?_
        refine J.thenN ?_
        refine J.condT rfl ?_
        refine J.seq ?_
        refine J.region ?_
        refine J.rd (Rd.assign rfl) rfl rfl ?_
        refine J.rd (Rd.assign rfl) rfl rfl ?_
        refine J.done ?_
        refine J.thenN ?_
        refine J.ret ?_
        refine J.thenR ?_
        refine J.leave2 (.inr rfl) rfl rfl rfl (fun w' hC => ?_)
        refine ⟨?_, by first | exact hC | exact St.sub hC⟩
        clear hC
        simp only [decide_eq_true_eq, decide_eq_false_iff_not, beq_iff_eq, beq_eq_false_iff_ne, ne_eq] at *
        first
        | (have e := rr_one (l := L) (by rw [hc]; omega)
           rw [e, hc]; rfl)
        | (have e : refRune L = (0, 0) := rr_stray (by rw [hc]; omega) (by rw [hc, hn]; simp only; omega)
           rw [e]; rfl)
        | (have e : refRune L = (0, 0) := rr_tail (k := k) (by rw [hc]; omega) (by rw [hc, hn]; simp only; omega) (by omega)
           rw [e]; rfl)
        | (have hkn : k + 1 = n := by omega
           have hnk : n - 1 = k := by omega
           have e := rr_whole (n := n) (least := least) (r0 := r0) (by rw [hc]; omega) (by rw [hc]; exact hn) (by omega) (by omega) (by rw [hnk]; exact hk.1)
           rw [hnk] at e
           first
           | (rw [if_pos (by omega)] at e
              rw [e]; rfl)
           | (rw [if_neg (by omega)] at e
              rw [e]))
      · skip
        refine J.rd (Rd.move rfl) rfl rfl ?_
        refine J.rd (Rd.lenStr rfl rfl Tryd.underlying9) rfl rfl ?_
        refine J.rd (Rd.move rfl) rfl rfl ?_
        refine J.rd (Rd.bin' rfl rfl rfl (fun _ => rfl)) rfl rfl ?_
        refine J.rd (Rd.pickF rfl rfl) rfl rfl ?_
        refine J.done ?_
        refine J.thenN ?_
        refine J.cond rfl (fun hb17 => ?_) (fun hb17 => ?_)
        · skip
          refine J.seq ?_
          refine J.region ?_
          refine J.rd (Rd.assign rfl) rfl rfl ?_
          refine J.rd (Rd.assign rfl) rfl rfl ?_
          refine J.done ?_
          refine J.thenN ?_
          refine J.ret ?_
          refine J.thenR ?_
          refine J.leave2 (.inr rfl) rfl rfl rfl (fun w' hC => ?_)
          refine ⟨?_, by first | exact hC | exact St.sub hC⟩
          clear hC
          simp only [decide_eq_true_eq, decide_eq_false_iff_not, beq_iff_eq, beq_eq_false_iff_ne, ne_eq] at *
          first
          | (have e := rr_one (l := L) (by rw [hc]; omega)
             rw [e, hc]; rfl)
          | (have e : refRune L = (0, 0) := rr_stray (by rw [hc]; omega) (by rw [hc, hn]; simp only; omega)
             rw [e]; rfl)
          | (have e : refRune L = (0, 0) := rr_tail (k := k) (by rw [hc]; omega) (by rw [hc, hn]; simp only; omega) (by omega)
             rw [e]; rfl)
          | (have hkn : k + 1 = n := by omega
             have hnk : n - 1 = k := by omega
             have e := rr_whole (n := n) (least := least) (r0 := r0) (by rw [hc]; omega) (by rw [hc]; exact hn) (by omega) (by omega) (by rw [hnk]; exact hk.1)
             rw [hnk] at e
             first
             | (rw [if_pos (by omega)] at e
                rw [e]; rfl)
             | (rw [if_neg (by omega)] at e
                rw [e]))
        · skip
          refine J.skip ?_
          refine J.thenN ?_
          refine J.seq ?_
          refine J.seq ?_
          refine J.region ?_
          refine J.rd (Rd.assign rfl) rfl rfl ?_
          refine J.done ?_
          refine J.thenN ?_
          refine J.block ?_
          refine J.loop (σ := Nat) (fun k => n - k) (fun k => [(0, .string s), (5, .int .i64 (n : Nat)), (6, .int .i64 (least : Nat)), (7, .int .i64 ((rrGo L r0 k : Nat) : Int)), (8, .int .i64 ((k + 1 : Nat) : Int))])
            (fun k w => (tailOk L k ∧ k + 1 ≤ n) ∧ St Z w Lf) 0 (.cons rfl (.cons rfl (.cons rfl (.cons rfl (.cons rfl .nil))))) (fun w hw => ⟨⟨fun j hj => by omega, by simp at hb16 hb17; omega⟩, hw⟩) ?_
          intro k
          refine J.andC fun hk => ?_
          have hrg := rrGo_le hr0 k hk.1
          have hrg2 : rrGo L r0 k < 32 * 64 ^ 3 := Nat.lt_of_lt_of_le hrg (Nat.mul_le_mul_left _ (Nat.pow_le_pow_right (by decide) (by omega)))
          refine J.seq ?_
          refine J.seq ?_
          refine J.region ?_
          refine J.rd (Rd.move rfl) rfl rfl ?_
          refine J.rd (Rd.move rfl) rfl rfl ?_
          refine J.rd (Rd.bin' rfl rfl rfl (fun _ => rfl)) rfl rfl ?_
          refine J.done ?_
          refine J.thenN ?_
          refine J.cond rfl (fun hb18 => ?_) (fun hb18 => ?_)
          · skip
            refine J.skip ?_
            refine J.thenN ?_
            refine J.seq ?_
            refine J.block ?_
            refine J.seq ?_
            have hx := (L.getD (k + 1) 0).toNat_lt
            have hks : k + 1 < s.size := by simp at hb17 hb18; omega
            refine J.region ?_
            refine J.rd (Rd.move rfl) rfl rfl ?_
            refine J.rd (Rd.move rfl) rfl rfl ?_
            refine J.rd (Rd.indexStr (i := k + 1) rfl rfl Tryd.underlying9 (hget (k + 1) hks)) rfl rfl ?_
            refine J.rd (Rd.convI rfl Tryd.underlying5 Tryd.underlying3) rfl rfl ?_
            first | refine J.val (wI64 ⟨by omega, by omega⟩) ?_ | skip
            refine J.rd (Rd.assign rfl) rfl rfl ?_
            refine J.done ?_
            refine J.thenN ?_
            refine J.seq ?_
            refine J.seq ?_
            refine J.region ?_
            refine J.rd (Rd.move rfl) rfl rfl ?_
            refine J.rd (Rd.bin' rfl rfl rfl (fun _ => rfl)) rfl rfl ?_
            refine J.rd (Rd.move rfl) rfl rfl ?_
            refine J.bcase (fun hb19 => ?_) (fun hb19 => ?_)
            · skip
              refine J.pass rfl rfl ?_
              refine J.pass rfl rfl ?_
              refine J.rd (Rd.pickT rfl rfl) rfl rfl ?_
              refine J.done ?_
              refine J.thenN ?_
              refine J.condT rfl ?_
              refine J.seq ?_
              refine J.region ?_
              refine J.rd (Rd.assign rfl) rfl rfl ?_
              refine J.rd (Rd.assign rfl) rfl rfl ?_
              refine J.done ?_
              refine J.thenN ?_
              refine J.ret ?_
              refine J.thenR ?_
              refine J.blockR ?_
              refine J.thenR ?_
              refine J.thenR ?_
              refine J.blockR ?_
              refine J.thenR ?_
              refine J.leave2 (.inr rfl) rfl rfl rfl (fun w' hC => ?_)
              refine ⟨?_, by first | exact hC | exact St.sub hC⟩
              clear hC
              simp only [decide_eq_true_eq, decide_eq_false_iff_not, beq_iff_eq, beq_eq_false_iff_ne, ne_eq] at *
              first
              | (have e := rr_one (l := L) (by rw [hc]; omega)
                 rw [e, hc]; rfl)
              | (have e : refRune L = (0, 0) := rr_stray (by rw [hc]; omega) (by rw [hc, hn]; simp only; omega)
                 rw [e]; rfl)
              | (have e : refRune L = (0, 0) := rr_tail (k := k) (by rw [hc]; omega) (by rw [hc, hn]; simp only; omega) (by omega)
                 rw [e]; rfl)
              | (have hkn : k + 1 = n := by omega
                 have hnk : n - 1 = k := by omega
                 have e := rr_whole (n := n) (least := least) (r0 := r0) (by rw [hc]; omega) (by rw [hc]; exact hn) (by omega) (by omega) (by rw [hnk]; exact hk.1)
                 rw [hnk] at e
                 first
                 | (rw [if_pos (by omega)] at e
                    rw [e]; rfl)
                 | (rw [if_neg (by omega)] at e
                    rw [e]))
            · skip
              refine J.rd (Rd.move rfl) rfl rfl ?_
              refine J.rd (Rd.bin' rfl rfl rfl (fun _ => rfl)) rfl rfl ?_
              refine J.rd (Rd.pickF rfl rfl) rfl rfl ?_
              refine J.done ?_
              refine J.thenN ?_
              refine J.cond rfl (fun hb20 => ?_) (fun hb20 => ?_)
              · skip
                refine J.seq ?_
                refine J.region ?_
                refine J.rd (Rd.assign rfl) rfl rfl ?_
                refine J.rd (Rd.assign rfl) rfl rfl ?_
                refine J.done ?_
                refine J.thenN ?_
                refine J.ret ?_
                refine J.thenR ?_
                refine J.blockR ?_
                refine J.thenR ?_
                refine J.thenR ?_
                refine J.blockR ?_
                refine J.thenR ?_
                refine J.leave2 (.inr rfl) rfl rfl rfl (fun w' hC => ?_)
                refine ⟨?_, by first | exact hC | exact St.sub hC⟩
                clear hC
                simp only [decide_eq_true_eq, decide_eq_false_iff_not, beq_iff_eq, beq_eq_false_iff_ne, ne_eq] at *
                first
                | (have e := rr_one (l := L) (by rw [hc]; omega)
                   rw [e, hc]; rfl)
                | (have e : refRune L = (0, 0) := rr_stray (by rw [hc]; omega) (by rw [hc, hn]; simp only; omega)
                   rw [e]; rfl)
                | (have e : refRune L = (0, 0) := rr_tail (k := k) (by rw [hc]; omega) (by rw [hc, hn]; simp only; omega) (by omega)
                   rw [e]; rfl)
                | (have hkn : k + 1 = n := by omega
                   have hnk : n - 1 = k := by omega
                   have e := rr_whole (n := n) (least := least) (r0 := r0) (by rw [hc]; omega) (by rw [hc]; exact hn) (by omega) (by omega) (by rw [hnk]; exact hk.1)
                   rw [hnk] at e
                   first
                   | (rw [if_pos (by omega)] at e
                      rw [e]; rfl)
                   | (rw [if_neg (by omega)] at e
                      rw [e]))
              · skip
                refine J.skip ?_
                refine J.thenN ?_
                have hx1 : 128 ≤ (L.getD (k + 1) 0).toNat := by simp only [decide_eq_true_eq, decide_eq_false_iff_not] at hb19; omega
                have hx2 : (L.getD (k + 1) 0).toNat ≤ 191 := by simp only [decide_eq_true_eq, decide_eq_false_iff_not] at hb20; omega
                refine J.region ?_
                refine J.rd (Rd.move rfl) rfl rfl ?_
                refine J.rd (Rd.bin' rfl rfl rfl (fun _ => rfl)) rfl rfl ?_
                first | refine J.val (wI64 ⟨by omega, by omega⟩) ?_ | skip
                refine J.rd (Rd.move rfl) rfl rfl ?_
                refine J.rd (Rd.bin' rfl rfl rfl (fun _ => rfl)) rfl rfl ?_
                first | refine J.val (wI64 ⟨by omega, by omega⟩) ?_ | skip
                refine J.rd (Rd.bin' rfl rfl rfl (fun _ => rfl)) rfl rfl ?_
                first | refine J.val (wI64 ⟨by omega, by omega⟩) ?_ | skip
                refine J.val (show _ = Value.int .i64 ((rrGo L r0 (k + 1) : Nat) : Int) from congrArg (Value.int .i64) (by simp only [rrGo]; omega)) ?_
                refine J.rd (Rd.assign rfl) rfl rfl ?_
                refine J.done ?_
                refine J.blockN ?_
                refine J.thenN ?_
                refine J.region ?_
                refine J.rd (Rd.move rfl) rfl rfl ?_
                refine J.rd (Rd.bin' rfl rfl rfl (fun _ => rfl)) rfl rfl ?_
                first | refine J.val (wI64 ⟨by omega, by omega⟩) ?_ | skip
                refine J.val (show _ = Value.int .i64 ((k + 1 + 1 : Nat) : Int) from congrArg (Value.int .i64) (by omega)) ?_
                refine J.rd (Rd.assign rfl) rfl rfl ?_
                refine J.done ?_
                refine J.thenN ?_
                refine J.again k (k + 1) (by show n - (k + 1) < n - k; simp at hb18; omega) (.cons rfl (.cons rfl (.cons rfl (.cons rfl (.cons rfl .nil))))) (fun w hw => ⟨⟨fun j hj => ?_, by simp at hb18; omega⟩, hw⟩)
                by_cases e : j = k
                · subst e
                  simp only [decide_eq_true_eq, decide_eq_false_iff_not] at hb19 hb20
                  omega
                · exact hk.1 j (by omega)
          · skip
            refine J.exit ?_
            refine J.thenE ?_
            refine J.thenE ?_
            refine J.blockE ?_
            refine J.thenN ?_
            refine J.seq ?_
            refine J.seq ?_
            refine J.region ?_
            refine J.rd (Rd.move rfl) rfl rfl ?_
            refine J.rd (Rd.move rfl) rfl rfl ?_
            refine J.rd (Rd.bin' rfl rfl rfl (fun _ => rfl)) rfl rfl ?_
            refine J.rd (Rd.move rfl) rfl rfl ?_
            refine J.bcase (fun hb21 => ?_) (fun hb21 => ?_)
            · skip
              refine J.pass rfl rfl ?_
              refine J.pass rfl rfl ?_
              refine J.rd (Rd.pickT rfl rfl) rfl rfl ?_
              refine J.rd (Rd.move rfl) rfl rfl ?_
              refine J.pass rfl rfl ?_
              refine J.pass rfl rfl ?_
              refine J.pass rfl rfl ?_
              refine J.pass rfl rfl ?_
              refine J.pass rfl rfl ?_
              refine J.pass rfl rfl ?_
              refine J.rd (Rd.pickT rfl rfl) rfl rfl ?_
              refine J.done ?_
              refine J.thenN ?_
              refine J.condT rfl ?_
              refine J.seq ?_
              refine J.region ?_
              refine J.rd (Rd.assign rfl) rfl rfl ?_
              refine J.rd (Rd.assign rfl) rfl rfl ?_
              refine J.done ?_
              refine J.thenN ?_
              refine J.ret ?_
              refine J.thenR ?_
              refine J.leave2 (.inr rfl) rfl rfl rfl (fun w' hC => ?_)
              refine ⟨?_, by first | exact hC | exact St.sub hC⟩
              clear hC
              simp only [decide_eq_true_eq, decide_eq_false_iff_not, beq_iff_eq, beq_eq_false_iff_ne, ne_eq] at *
              first
              | (have e := rr_one (l := L) (by rw [hc]; omega)
                 rw [e, hc]; rfl)
              | (have e : refRune L = (0, 0) := rr_stray (by rw [hc]; omega) (by rw [hc, hn]; simp only; omega)
                 rw [e]; rfl)
              | (have e : refRune L = (0, 0) := rr_tail (k := k) (by rw [hc]; omega) (by rw [hc, hn]; simp only; omega) (by omega)
                 rw [e]; rfl)
              | (have hkn : k + 1 = n := by omega
                 have hnk : n - 1 = k := by omega
                 have e := rr_whole (n := n) (least := least) (r0 := r0) (by rw [hc]; omega) (by rw [hc]; exact hn) (by omega) (by omega) (by rw [hnk]; exact hk.1)
                 rw [hnk] at e
                 first
                 | (rw [if_pos (by omega)] at e
                    rw [e]; rfl)
                 | (rw [if_neg (by omega)] at e
                    rw [e]))
            · skip
              refine J.rd (Rd.move rfl) rfl rfl ?_
              refine J.rd (Rd.bin' rfl rfl rfl (fun _ => rfl)) rfl rfl ?_
              refine J.rd (Rd.pickF rfl rfl) rfl rfl ?_
              refine J.rd (Rd.move rfl) rfl rfl ?_
              refine J.bcase (fun hb22 => ?_) (fun hb22 => ?_)
              · skip
                refine J.pass rfl rfl ?_
                refine J.pass rfl rfl ?_
                refine J.pass rfl rfl ?_
                refine J.pass rfl rfl ?_
                refine J.pass rfl rfl ?_
                refine J.pass rfl rfl ?_
                refine J.rd (Rd.pickT rfl rfl) rfl rfl ?_
                refine J.done ?_
                refine J.thenN ?_
                refine J.condT rfl ?_
                refine J.seq ?_
                refine J.region ?_
                refine J.rd (Rd.assign rfl) rfl rfl ?_
                refine J.rd (Rd.assign rfl) rfl rfl ?_
                refine J.done ?_
                refine J.thenN ?_
                refine J.ret ?_
                refine J.thenR ?_
                refine J.leave2 (.inr rfl) rfl rfl rfl (fun w' hC => ?_)
                refine ⟨?_, by first | exact hC | exact St.sub hC⟩
                clear hC
                simp only [decide_eq_true_eq, decide_eq_false_iff_not, beq_iff_eq, beq_eq_false_iff_ne, ne_eq] at *
                first
                | (have e := rr_one (l := L) (by rw [hc]; omega)
                   rw [e, hc]; rfl)
                | (have e : refRune L = (0, 0) := rr_stray (by rw [hc]; omega) (by rw [hc, hn]; simp only; omega)
                   rw [e]; rfl)
                | (have e : refRune L = (0, 0) := rr_tail (k := k) (by rw [hc]; omega) (by rw [hc, hn]; simp only; omega) (by omega)
                   rw [e]; rfl)
                | (have hkn : k + 1 = n := by omega
                   have hnk : n - 1 = k := by omega
                   have e := rr_whole (n := n) (least := least) (r0 := r0) (by rw [hc]; omega) (by rw [hc]; exact hn) (by omega) (by omega) (by rw [hnk]; exact hk.1)
                   rw [hnk] at e
                   first
                   | (rw [if_pos (by omega)] at e
                      rw [e]; rfl)
                   | (rw [if_neg (by omega)] at e
                      rw [e]))
              · skip
                refine J.rd (Rd.move rfl) rfl rfl ?_
                refine J.rd (Rd.bin' rfl rfl rfl (fun _ => rfl)) rfl rfl ?_
                refine J.rd (Rd.move rfl) rfl rfl ?_
                refine J.bcase (fun hb23 => ?_) (fun hb23 => ?_)
                · skip
                  refine J.rd (Rd.move rfl) rfl rfl ?_
                  refine J.rd (Rd.bin' rfl rfl rfl (fun _ => rfl)) rfl rfl ?_
                  refine J.rd (Rd.pickT rfl rfl) rfl rfl ?_
                  refine J.rd (Rd.pickF rfl rfl) rfl rfl ?_
                  refine J.done ?_
                  refine J.thenN ?_
                  refine J.cond rfl (fun hb24 => ?_) (fun hb24 => ?_)
                  · skip
                    refine J.seq ?_
                    refine J.region ?_
                    refine J.rd (Rd.assign rfl) rfl rfl ?_
                    refine J.rd (Rd.assign rfl) rfl rfl ?_
                    refine J.done ?_
                    refine J.thenN ?_
                    refine J.ret ?_
                    refine J.thenR ?_
                    refine J.leave2 (.inr rfl) rfl rfl rfl (fun w' hC => ?_)
                    refine ⟨?_, by first | exact hC | exact St.sub hC⟩
                    clear hC
                    simp only [decide_eq_true_eq, decide_eq_false_iff_not, beq_iff_eq, beq_eq_false_iff_ne, ne_eq] at *
                    first
                    | (have e := rr_one (l := L) (by rw [hc]; omega)
                       rw [e, hc]; rfl)
                    | (have e : refRune L = (0, 0) := rr_stray (by rw [hc]; omega) (by rw [hc, hn]; simp only; omega)
                       rw [e]; rfl)
                    | (have e : refRune L = (0, 0) := rr_tail (k := k) (by rw [hc]; omega) (by rw [hc, hn]; simp only; omega) (by omega)
                       rw [e]; rfl)
                    | (have hkn : k + 1 = n := by omega
                       have hnk : n - 1 = k := by omega
                       have e := rr_whole (n := n) (least := least) (r0 := r0) (by rw [hc]; omega) (by rw [hc]; exact hn) (by omega) (by omega) (by rw [hnk]; exact hk.1)
                       rw [hnk] at e
                       first
                       | (rw [if_pos (by omega)] at e
                          rw [e]; rfl)
                       | (rw [if_neg (by omega)] at e
                          rw [e]))
                  · skip
                    refine J.skip ?_
                    refine J.thenN ?_
                    refine J.seq ?_
                    refine J.region ?_
                    refine J.rd (Rd.move rfl) rfl rfl ?_
                    refine J.rd (Rd.move rfl) rfl rfl ?_
                    refine J.rd (Rd.assign rfl) rfl rfl ?_
                    refine J.rd (Rd.assign rfl) rfl rfl ?_
                    refine J.done ?_
                    refine J.thenN ?_
                    refine J.ret ?_
                    refine J.leave2 (.inr rfl) rfl rfl rfl (fun w' hC => ?_)
                    refine ⟨?_, by first | exact hC | exact St.sub hC⟩
                    clear hC
                    simp only [decide_eq_true_eq, decide_eq_false_iff_not, beq_iff_eq, beq_eq_false_iff_ne, ne_eq] at *
                    first
                    | (have e := rr_one (l := L) (by rw [hc]; omega)
                       rw [e, hc]; rfl)
                    | (have e : refRune L = (0, 0) := rr_stray (by rw [hc]; omega) (by rw [hc, hn]; simp only; omega)
                       rw [e]; rfl)
                    | (have e : refRune L = (0, 0) := rr_tail (k := k) (by rw [hc]; omega) (by rw [hc, hn]; simp only; omega) (by omega)
                       rw [e]; rfl)
                    | (have hkn : k + 1 = n := by omega
                       have hnk : n - 1 = k := by omega
                       have e := rr_whole (n := n) (least := least) (r0 := r0) (by rw [hc]; omega) (by rw [hc]; exact hn) (by omega) (by omega) (by rw [hnk]; exact hk.1)
                       rw [hnk] at e
                       first
                       | (rw [if_pos (by omega)] at e
                          rw [e]; rfl)
                       | (rw [if_neg (by omega)] at e
                          rw [e]))
                · skip
                  refine J.pass rfl rfl ?_
                  refine J.pass rfl rfl ?_
                  refine J.rd (Rd.pickF rfl rfl) rfl rfl ?_
                  refine J.rd (Rd.pickF rfl rfl) rfl rfl ?_
                  refine J.done ?_
                  refine J.thenN ?_
                  refine J.condF rfl ?_
                  refine J.skip ?_
                  refine J.thenN ?_
                  refine J.seq ?_
                  refine J.region ?_
                  refine J.rd (Rd.move rfl) rfl rfl ?_
                  refine J.rd (Rd.move rfl) rfl rfl ?_
                  refine J.rd (Rd.assign rfl) rfl rfl ?_
                  refine J.rd (Rd.assign rfl) rfl rfl ?_
                  refine J.done ?_
                  refine J.thenN ?_
                  refine J.ret ?_
                  refine J.leave2 (.inr rfl) rfl rfl rfl (fun w' hC => ?_)
                  refine ⟨?_, by first | exact hC | exact St.sub hC⟩
                  clear hC
                  simp only [decide_eq_true_eq, decide_eq_false_iff_not, beq_iff_eq, beq_eq_false_iff_ne, ne_eq] at *
                  first
                  | (have e := rr_one (l := L) (by rw [hc]; omega)
                     rw [e, hc]; rfl)
                  | (have e : refRune L = (0, 0) := rr_stray (by rw [hc]; omega) (by rw [hc, hn]; simp only; omega)
                     rw [e]; rfl)
                  | (have e : refRune L = (0, 0) := rr_tail (k := k) (by rw [hc]; omega) (by rw [hc, hn]; simp only; omega) (by omega)
                     rw [e]; rfl)
                  | (have hkn : k + 1 = n := by omega
                     have hnk : n - 1 = k := by omega
                     have e := rr_whole (n := n) (least := least) (r0 := r0) (by rw [hc]; omega) (by rw [hc]; exact hn) (by omega) (by omega) (by rw [hnk]; exact hk.1)
                     rw [hnk] at e
                     first
                     | (rw [if_pos (by omega)] at e
                        rw [e]; rfl)
                     | (rw [if_neg (by omega)] at e
                        rw [e]))

theorem RTitle_calls {Z w : World} {Lf : List HP} (s : ByteArray) (hs : s.size ≤ 4611686018427387904) (hst : St Z w Lf) : Calls Tryd.prog 60 #[.string s] w (Ret fun r w' => r = .string ⟨(titleF s.data.toList).toArray⟩ ∧ St Z w' Lf) := by
  refine J.enter (N := 61) (l := [.string s]) (C := Sto Z Lf) Tryd.func60 rfl Tryd.ntmps60 (by simp) (hst) ?_
  have hsl : s.data.toList.length = s.size := by simp
  generalize hL : s.data.toList = L at hsl
  refine J.seq ?_
  refine J.region ?_
  refine J.rd (Rd.assign rfl) rfl rfl ?_
  refine J.done ?_
  refine J.thenN ?_
  refine J.seq ?_
  refine J.region ?_
  refine J.rd (Rd.assign rfl) rfl rfl ?_
  refine J.done ?_
  refine J.thenN ?_
  refine J.seq ?_
  refine J.seq ?_
  refine J.region ?_
  refine J.rd (Rd.assign rfl) rfl rfl ?_
  refine J.done ?_
  refine J.thenN ?_
  refine J.block ?_
  refine J.loop (σ := Nat × List UInt8) (fun q => L.length - q.1) (fun q => [(0, .string s), (3, .string ⟨q.2.toArray⟩), (4, .int .i64 (q.1 : Int))])
    (fun q w => (TitleAt L q.1 q.2 ∧ q.2.length ≤ 60 ∧ q.1 ≤ L.length) ∧ St Z w Lf) (0, []) (.cons rfl (.cons rfl (.cons rfl .nil))) (fun w hw => ⟨⟨TitleAt.start _, by simp, by simp⟩, hw⟩) ?_
  rintro ⟨pos, out⟩
  refine J.andC fun hq => ?_
  obtain ⟨hq1, hq2, hq3⟩ := hq
  simp only at hq1 hq2 hq3
  simp only
  refine J.seq ?_
  refine J.seq ?_
  refine J.region ?_
  refine J.rd (Rd.move rfl) rfl rfl ?_
  refine J.rd (Rd.move rfl) rfl rfl ?_
  refine J.rd (Rd.lenStr rfl rfl Tryd.underlying9) rfl rfl ?_
  refine J.rd (Rd.bin' rfl rfl rfl (fun _ => rfl)) rfl rfl ?_
  refine J.done ?_
  refine J.thenN ?_
  refine J.cond rfl (fun hb1 => ?_) (fun hb1 => ?_)
  · skip
    refine J.skip ?_
    refine J.thenN ?_
    refine J.block ?_
    refine J.seq ?_
    have hlt : pos < L.length := by simp at hb1; omega
    have hne := drop_ne hlt
    have hx := refX_eq hne
    have hrn := refRune_n (L.drop pos)
    have hle := Lib.decodeL_le (L.drop pos) hne
    obtain ⟨c, wd, hdl⟩ : ∃ c wd, Lib.decodeL (L.drop pos) = (c, wd) := ⟨_, _, rfl⟩
    have hw := Lib.decodeL_width (L.drop pos)
    rw [hdl] at hx hrn hle hw
    simp only [List.length_drop] at hx hrn hle hw
    have hrB := runeB_le (tRune c wd)
    have hrP := runeB_pos (tRune c wd)
    have hexd : (s.extract pos s.size).data.toList = L.drop pos := by
      rw [ByteArray.data_extract, Array.toList_extract, List.extract_eq_take_drop, hL, List.take_of_length_le (by simp; omega)]
    have hexs : 0 < (s.extract pos s.size).size := by rw [ByteArray.size_extract]; omega
    obtain ⟨r, n, hrr⟩ : ∃ r n, refRune (L.drop pos) = (r, n) := ⟨_, _, rfl⟩
    rw [hrr] at hrn
    simp only at hrn
    have hnw : n ≤ wd := by split at hrn <;> omega
    refine J.region ?_
    refine J.rd (Rd.move rfl) rfl rfl ?_
    refine J.rd (Rd.move rfl) rfl rfl ?_
    refine J.rd (Rd.sliceStr (l := pos) (h := s.size) Tryd.underlying9 rfl ⟨_, rfl, rfl⟩ ⟨rfl, rfl⟩ (by omega) (by omega)) rfl rfl ?_
    refine J.call can85 rfl (fun w hC => Rune_calls _ hexs hC) rfl rfl (fun v16 => ?_)
    refine J.andC fun hv16 => ?_
    subst hv16
    rw [hexd, hrr]
    refine J.rd (Rd.move rfl) rfl rfl ?_
    refine J.rd (Rd.extractL rfl) rfl rfl ?_
    refine J.rd (Rd.extractL rfl) rfl rfl ?_
    refine J.rd (Rd.assign rfl) rfl rfl ?_
    refine J.rd (Rd.assign rfl) rfl rfl ?_
    refine J.done ?_
    refine J.thenN ?_
    refine J.seq ?_
    refine J.region ?_
    refine J.rd (Rd.assign rfl) rfl rfl ?_
    refine J.done ?_
    refine J.thenN ?_
    refine J.cut (σ := List UInt8) (fun x => [(0, .string s), (3, .string ⟨out.toArray⟩), (4, .int .i64 (pos : Int)), (5, .int .i64 (r : Nat)), (6, .int .i64 (n : Nat)), (7, .string ⟨x.toArray⟩)]) (fun x w => x = (if 0 < n ∧ 32 ≤ r ∧ r ≠ 127 ∧ r ≠ 59 then (L.drop pos).take n else [32]) ∧ St Z w Lf) ?_ ?_
    · skip
      refine J.seq ?_
      refine J.region ?_
      refine J.rd (Rd.move rfl) rfl rfl ?_
      refine J.rd (Rd.bin' rfl rfl rfl (fun _ => rfl)) rfl rfl ?_
      refine J.rd (Rd.move rfl) rfl rfl ?_
      refine J.bcase (fun hb2 => ?_) (fun hb2 => ?_)
      · skip
        refine J.rd (Rd.move rfl) rfl rfl ?_
        refine J.rd (Rd.bin' rfl rfl rfl (fun _ => rfl)) rfl rfl ?_
        refine J.rd (Rd.pickT rfl rfl) rfl rfl ?_
        refine J.rd (Rd.move rfl) rfl rfl ?_
        refine J.bcase (fun hb3 => ?_) (fun hb3 => ?_)
        · skip
          refine J.rd (Rd.move rfl) rfl rfl ?_
          refine J.rd (Rd.bin' rfl rfl rfl (fun _ => rfl)) rfl rfl ?_
          refine J.rd (Rd.pickT rfl rfl) rfl rfl ?_
          refine J.rd (Rd.move rfl) rfl rfl ?_
          refine J.bcase (fun hb4 => ?_) (fun hb4 => ?_)
          · skip
            refine J.rd (Rd.move rfl) rfl rfl ?_
            refine J.rd (Rd.bin' rfl rfl rfl (fun _ => rfl)) rfl rfl ?_
            refine J.rd (Rd.pickT rfl rfl) rfl rfl ?_
            refine J.done ?_
            refine J.thenN ?_
            refine J.cond rfl (fun hb5 => ?_) (fun hb5 => ?_)
            · skip
              refine J.region ?_
              refine J.rd (Rd.move rfl) rfl rfl ?_
              refine J.rd (Rd.move rfl) rfl rfl ?_
              refine J.rd (Rd.move rfl) rfl rfl ?_
              refine J.rd (Rd.move rfl) rfl rfl ?_
              refine J.rd (Rd.bin' rfl rfl rfl (fun _ => rfl)) rfl rfl ?_
              first | refine J.val (wI64 ⟨by omega, by omega⟩) ?_ | skip
              refine J.val (show _ = Value.int .i64 ((pos + n : Nat) : Int) from congrArg (Value.int .i64) (by omega)) ?_
              refine J.rd (Rd.sliceStr (l := pos) (h := pos + n) Tryd.underlying9 rfl ⟨_, rfl, rfl⟩ ⟨_, rfl, rfl⟩ (by omega) (by omega)) rfl rfl ?_
              refine J.val (show _ = Value.string ⟨((L.drop pos).take n).toArray⟩ from congrArg Value.string (by apply ByteArray.ext; apply Array.ext'; rw [ByteArray.data_extract, Array.toList_extract, List.extract_eq_take_drop, hL, Nat.add_sub_cancel_left])) ?_
              refine J.rd (Rd.assign rfl) rfl rfl ?_
              refine J.done ?_
              refine J.thenN ?_
              first
                | (simp only [decide_eq_true_eq, decide_eq_false_iff_not, bne_iff_ne, ne_eq, bne_eq_false_iff_eq, beq_iff_eq, beq_eq_false_iff_ne] at *
                   refine J.met ([226, 128, 153]) (.cons rfl (.cons rfl (.cons rfl (.cons rfl (.cons rfl (.cons rfl .nil)))))) (fun w hw => ⟨?_, hw⟩)
                   first
                   | (rw [if_pos (by omega)]; done)
                   | (rw [if_neg (by omega)]; done))
                | (simp only [decide_eq_true_eq, decide_eq_false_iff_not, bne_iff_ne, ne_eq, bne_eq_false_iff_eq, beq_iff_eq, beq_eq_false_iff_ne] at *
                   refine J.met ((L.drop pos).take n) (.cons rfl (.cons rfl (.cons rfl (.cons rfl (.cons rfl (.cons rfl .nil)))))) (fun w hw => ⟨?_, hw⟩)
                   first
                   | (rw [if_pos (by omega)]; done)
                   | (rw [if_neg (by omega)]; done))
                | (simp only [decide_eq_true_eq, decide_eq_false_iff_not, bne_iff_ne, ne_eq, bne_eq_false_iff_eq, beq_iff_eq, beq_eq_false_iff_ne] at *
                   refine J.met ([32]) (.cons rfl (.cons rfl (.cons rfl (.cons rfl (.cons rfl (.cons rfl .nil)))))) (fun w hw => ⟨?_, hw⟩)
                   first
                   | (rw [if_pos (by omega)]; done)
                   | (rw [if_neg (by omega)]; done))
                | (simp only [decide_eq_true_eq, decide_eq_false_iff_not, bne_iff_ne, ne_eq, bne_eq_false_iff_eq, beq_iff_eq, beq_eq_false_iff_ne] at *
                   refine J.met (x) (.cons rfl (.cons rfl (.cons rfl (.cons rfl (.cons rfl (.cons rfl .nil)))))) (fun w hw => ⟨?_, hw⟩)
                   first
                   | (rw [if_pos (by omega)]; done)
                   | (rw [if_neg (by omega)]; done))
            · skip
              refine J.skip ?_
              refine J.thenN ?_
              first
                | (simp only [decide_eq_true_eq, decide_eq_false_iff_not, bne_iff_ne, ne_eq, bne_eq_false_iff_eq, beq_iff_eq, beq_eq_false_iff_ne] at *
                   refine J.met ([226, 128, 153]) (.cons rfl (.cons rfl (.cons rfl (.cons rfl (.cons rfl (.cons rfl .nil)))))) (fun w hw => ⟨?_, hw⟩)
                   first
                   | (rw [if_pos (by omega)]; done)
                   | (rw [if_neg (by omega)]; done))
                | (simp only [decide_eq_true_eq, decide_eq_false_iff_not, bne_iff_ne, ne_eq, bne_eq_false_iff_eq, beq_iff_eq, beq_eq_false_iff_ne] at *
                   refine J.met ((L.drop pos).take n) (.cons rfl (.cons rfl (.cons rfl (.cons rfl (.cons rfl (.cons rfl .nil)))))) (fun w hw => ⟨?_, hw⟩)
                   first
                   | (rw [if_pos (by omega)]; done)
                   | (rw [if_neg (by omega)]; done))
                | (simp only [decide_eq_true_eq, decide_eq_false_iff_not, bne_iff_ne, ne_eq, bne_eq_false_iff_eq, beq_iff_eq, beq_eq_false_iff_ne] at *
                   refine J.met ([32]) (.cons rfl (.cons rfl (.cons rfl (.cons rfl (.cons rfl (.cons rfl .nil)))))) (fun w hw => ⟨?_, hw⟩)
                   first
                   | (rw [if_pos (by omega)]; done)
                   | (rw [if_neg (by omega)]; done))
                | (simp only [decide_eq_true_eq, decide_eq_false_iff_not, bne_iff_ne, ne_eq, bne_eq_false_iff_eq, beq_iff_eq, beq_eq_false_iff_ne] at *
                   refine J.met (x) (.cons rfl (.cons rfl (.cons rfl (.cons rfl (.cons rfl (.cons rfl .nil)))))) (fun w hw => ⟨?_, hw⟩)
                   first
                   | (rw [if_pos (by omega)]; done)
                   | (rw [if_neg (by omega)]; done))
          · skip
            refine J.pass rfl rfl ?_
            refine J.pass rfl rfl ?_
            refine J.rd (Rd.pickF rfl rfl) rfl rfl ?_
            refine J.done ?_
            refine J.thenN ?_
            refine J.condF rfl ?_
            refine J.skip ?_
            refine J.thenN ?_
            first
              | (simp only [decide_eq_true_eq, decide_eq_false_iff_not, bne_iff_ne, ne_eq, bne_eq_false_iff_eq, beq_iff_eq, beq_eq_false_iff_ne] at *
                 refine J.met ([226, 128, 153]) (.cons rfl (.cons rfl (.cons rfl (.cons rfl (.cons rfl (.cons rfl .nil)))))) (fun w hw => ⟨?_, hw⟩)
                 first
                 | (rw [if_pos (by omega)]; done)
                 | (rw [if_neg (by omega)]; done))
              | (simp only [decide_eq_true_eq, decide_eq_false_iff_not, bne_iff_ne, ne_eq, bne_eq_false_iff_eq, beq_iff_eq, beq_eq_false_iff_ne] at *
                 refine J.met ((L.drop pos).take n) (.cons rfl (.cons rfl (.cons rfl (.cons rfl (.cons rfl (.cons rfl .nil)))))) (fun w hw => ⟨?_, hw⟩)
                 first
                 | (rw [if_pos (by omega)]; done)
                 | (rw [if_neg (by omega)]; done))
              | (simp only [decide_eq_true_eq, decide_eq_false_iff_not, bne_iff_ne, ne_eq, bne_eq_false_iff_eq, beq_iff_eq, beq_eq_false_iff_ne] at *
                 refine J.met ([32]) (.cons rfl (.cons rfl (.cons rfl (.cons rfl (.cons rfl (.cons rfl .nil)))))) (fun w hw => ⟨?_, hw⟩)
                 first
                 | (rw [if_pos (by omega)]; done)
                 | (rw [if_neg (by omega)]; done))
              | (simp only [decide_eq_true_eq, decide_eq_false_iff_not, bne_iff_ne, ne_eq, bne_eq_false_iff_eq, beq_iff_eq, beq_eq_false_iff_ne] at *
                 refine J.met (x) (.cons rfl (.cons rfl (.cons rfl (.cons rfl (.cons rfl (.cons rfl .nil)))))) (fun w hw => ⟨?_, hw⟩)
                 first
                 | (rw [if_pos (by omega)]; done)
                 | (rw [if_neg (by omega)]; done))
        · skip
          refine J.pass rfl rfl ?_
          refine J.pass rfl rfl ?_
          refine J.rd (Rd.pickF rfl rfl) rfl rfl ?_
          refine J.rd (Rd.move rfl) rfl rfl ?_
          refine J.pass rfl rfl ?_
          refine J.pass rfl rfl ?_
          refine J.rd (Rd.pickF rfl rfl) rfl rfl ?_
          refine J.done ?_
          refine J.thenN ?_
          refine J.condF rfl ?_
          refine J.skip ?_
          refine J.thenN ?_
          first
            | (simp only [decide_eq_true_eq, decide_eq_false_iff_not, bne_iff_ne, ne_eq, bne_eq_false_iff_eq, beq_iff_eq, beq_eq_false_iff_ne] at *
               refine J.met ([226, 128, 153]) (.cons rfl (.cons rfl (.cons rfl (.cons rfl (.cons rfl (.cons rfl .nil)))))) (fun w hw => ⟨?_, hw⟩)
               first
               | (rw [if_pos (by omega)]; done)
               | (rw [if_neg (by omega)]; done))
            | (simp only [decide_eq_true_eq, decide_eq_false_iff_not, bne_iff_ne, ne_eq, bne_eq_false_iff_eq, beq_iff_eq, beq_eq_false_iff_ne] at *
               refine J.met ((L.drop pos).take n) (.cons rfl (.cons rfl (.cons rfl (.cons rfl (.cons rfl (.cons rfl .nil)))))) (fun w hw => ⟨?_, hw⟩)
               first
               | (rw [if_pos (by omega)]; done)
               | (rw [if_neg (by omega)]; done))
            | (simp only [decide_eq_true_eq, decide_eq_false_iff_not, bne_iff_ne, ne_eq, bne_eq_false_iff_eq, beq_iff_eq, beq_eq_false_iff_ne] at *
               refine J.met ([32]) (.cons rfl (.cons rfl (.cons rfl (.cons rfl (.cons rfl (.cons rfl .nil)))))) (fun w hw => ⟨?_, hw⟩)
               first
               | (rw [if_pos (by omega)]; done)
               | (rw [if_neg (by omega)]; done))
            | (simp only [decide_eq_true_eq, decide_eq_false_iff_not, bne_iff_ne, ne_eq, bne_eq_false_iff_eq, beq_iff_eq, beq_eq_false_iff_ne] at *
               refine J.met (x) (.cons rfl (.cons rfl (.cons rfl (.cons rfl (.cons rfl (.cons rfl .nil)))))) (fun w hw => ⟨?_, hw⟩)
               first
               | (rw [if_pos (by omega)]; done)
               | (rw [if_neg (by omega)]; done))
      · skip
        refine J.pass rfl rfl ?_
        refine J.pass rfl rfl ?_
        refine J.rd (Rd.pickF rfl rfl) rfl rfl ?_
        refine J.rd (Rd.move rfl) rfl rfl ?_
        refine J.pass rfl rfl ?_
        refine J.pass rfl rfl ?_
        refine J.rd (Rd.pickF rfl rfl) rfl rfl ?_
        refine J.rd (Rd.move rfl) rfl rfl ?_
        refine J.pass rfl rfl ?_
        refine J.pass rfl rfl ?_
        refine J.rd (Rd.pickF rfl rfl) rfl rfl ?_
        refine J.done ?_
        refine J.thenN ?_
        refine J.condF rfl ?_
        refine J.skip ?_
        refine J.thenN ?_
        first
          | (simp only [decide_eq_true_eq, decide_eq_false_iff_not, bne_iff_ne, ne_eq, bne_eq_false_iff_eq, beq_iff_eq, beq_eq_false_iff_ne] at *
             refine J.met ([226, 128, 153]) (.cons rfl (.cons rfl (.cons rfl (.cons rfl (.cons rfl (.cons rfl .nil)))))) (fun w hw => ⟨?_, hw⟩)
             first
             | (rw [if_pos (by omega)]; done)
             | (rw [if_neg (by omega)]; done))
          | (simp only [decide_eq_true_eq, decide_eq_false_iff_not, bne_iff_ne, ne_eq, bne_eq_false_iff_eq, beq_iff_eq, beq_eq_false_iff_ne] at *
             refine J.met ((L.drop pos).take n) (.cons rfl (.cons rfl (.cons rfl (.cons rfl (.cons rfl (.cons rfl .nil)))))) (fun w hw => ⟨?_, hw⟩)
             first
             | (rw [if_pos (by omega)]; done)
             | (rw [if_neg (by omega)]; done))
          | (simp only [decide_eq_true_eq, decide_eq_false_iff_not, bne_iff_ne, ne_eq, bne_eq_false_iff_eq, beq_iff_eq, beq_eq_false_iff_ne] at *
             refine J.met ([32]) (.cons rfl (.cons rfl (.cons rfl (.cons rfl (.cons rfl (.cons rfl .nil)))))) (fun w hw => ⟨?_, hw⟩)
             first
             | (rw [if_pos (by omega)]; done)
             | (rw [if_neg (by omega)]; done))
          | (simp only [decide_eq_true_eq, decide_eq_false_iff_not, bne_iff_ne, ne_eq, bne_eq_false_iff_eq, beq_iff_eq, beq_eq_false_iff_ne] at *
             refine J.met (x) (.cons rfl (.cons rfl (.cons rfl (.cons rfl (.cons rfl (.cons rfl .nil)))))) (fun w hw => ⟨?_, hw⟩)
             first
             | (rw [if_pos (by omega)]; done)
             | (rw [if_neg (by omega)]; done))
    · intro x
      refine J.andC fun hx1 => ?_
      refine J.cut (σ := Unit) (fun _ => [(0, .string s), (3, .string ⟨out.toArray⟩), (4, .int .i64 (pos : Int)), (6, .int .i64 (n : Nat)), (7, .string ⟨(runeB (tRune c wd)).toArray⟩)]) (fun _ => Sto Z Lf) ?_ ?_
      · skip
        refine J.seq ?_
        refine J.region ?_
        refine J.rd (Rd.move rfl) rfl rfl ?_
        refine J.rd (Rd.bin' rfl rfl rfl (fun _ => rfl)) rfl rfl ?_
        refine J.rd (Rd.move rfl) rfl rfl ?_
        refine J.bcase (fun hb6 => ?_) (fun hb6 => ?_)
        · skip
          refine J.rd (Rd.move rfl) rfl rfl ?_
          refine J.rd (Rd.bin' rfl rfl rfl (fun _ => rfl)) rfl rfl ?_
          refine J.rd (Rd.pickT rfl rfl) rfl rfl ?_
          refine J.done ?_
          refine J.thenN ?_
          refine J.cond rfl (fun hb7 => ?_) (fun hb7 => ?_)
          · skip
            refine J.region ?_
            refine J.rd (Rd.assign rfl) rfl rfl ?_
            refine J.done ?_
            refine J.thenN ?_
            first
              | (try (exfalso; simp only [decide_eq_true_eq, decide_eq_false_iff_not, bne_iff_ne, ne_eq, bne_eq_false_iff_eq, beq_iff_eq, beq_eq_false_iff_ne] at *; omega)
                 all_goals (
                   have e : runeB (tRune c wd) = [226, 128, 153] := by
                     rw [← hx]
                     try rw [hx1]
                     unfold refX
                     rw [hrr]
                     simp only [decide_eq_true_eq, decide_eq_false_iff_not, bne_iff_ne, ne_eq, bne_eq_false_iff_eq, beq_iff_eq, beq_eq_false_iff_ne] at *
                     first
                     | (rw [if_pos (by omega)]; done)
                     | (rw [if_neg (by omega)]; done)
                   rw [e]
                   exact J.met () (.cons rfl (.cons rfl (.cons rfl (.cons rfl (.cons rfl .nil))))) (fun w hw => hw)))
              | (try (exfalso; simp only [decide_eq_true_eq, decide_eq_false_iff_not, bne_iff_ne, ne_eq, bne_eq_false_iff_eq, beq_iff_eq, beq_eq_false_iff_ne] at *; omega)
                 all_goals (
                   have e : runeB (tRune c wd) = (L.drop pos).take n := by
                     rw [← hx]
                     try rw [hx1]
                     unfold refX
                     rw [hrr]
                     simp only [decide_eq_true_eq, decide_eq_false_iff_not, bne_iff_ne, ne_eq, bne_eq_false_iff_eq, beq_iff_eq, beq_eq_false_iff_ne] at *
                     first
                     | (rw [if_pos (by omega)]; done)
                     | (rw [if_neg (by omega)]; done)
                   rw [e]
                   exact J.met () (.cons rfl (.cons rfl (.cons rfl (.cons rfl (.cons rfl .nil))))) (fun w hw => hw)))
              | (try (exfalso; simp only [decide_eq_true_eq, decide_eq_false_iff_not, bne_iff_ne, ne_eq, bne_eq_false_iff_eq, beq_iff_eq, beq_eq_false_iff_ne] at *; omega)
                 all_goals (
                   have e : runeB (tRune c wd) = [32] := by
                     rw [← hx]
                     try rw [hx1]
                     unfold refX
                     rw [hrr]
                     simp only [decide_eq_true_eq, decide_eq_false_iff_not, bne_iff_ne, ne_eq, bne_eq_false_iff_eq, beq_iff_eq, beq_eq_false_iff_ne] at *
                     first
                     | (rw [if_pos (by omega)]; done)
                     | (rw [if_neg (by omega)]; done)
                   rw [e]
                   exact J.met () (.cons rfl (.cons rfl (.cons rfl (.cons rfl (.cons rfl .nil))))) (fun w hw => hw)))
              | (try (exfalso; simp only [decide_eq_true_eq, decide_eq_false_iff_not, bne_iff_ne, ne_eq, bne_eq_false_iff_eq, beq_iff_eq, beq_eq_false_iff_ne] at *; omega)
                 all_goals (
                   have e : runeB (tRune c wd) = x := by
                     rw [← hx]
                     try rw [hx1]
                     unfold refX
                     rw [hrr]
                     simp only [decide_eq_true_eq, decide_eq_false_iff_not, bne_iff_ne, ne_eq, bne_eq_false_iff_eq, beq_iff_eq, beq_eq_false_iff_ne] at *
                     first
                     | (rw [if_pos (by omega)]; done)
                     | (rw [if_neg (by omega)]; done)
                   rw [e]
                   exact J.met () (.cons rfl (.cons rfl (.cons rfl (.cons rfl (.cons rfl .nil))))) (fun w hw => hw)))
          · skip
            refine J.skip ?_
            refine J.thenN ?_
            first
              | (try (exfalso; simp only [decide_eq_true_eq, decide_eq_false_iff_not, bne_iff_ne, ne_eq, bne_eq_false_iff_eq, beq_iff_eq, beq_eq_false_iff_ne] at *; omega)
                 all_goals (
                   have e : runeB (tRune c wd) = [226, 128, 153] := by
                     rw [← hx]
                     try rw [hx1]
                     unfold refX
                     rw [hrr]
                     simp only [decide_eq_true_eq, decide_eq_false_iff_not, bne_iff_ne, ne_eq, bne_eq_false_iff_eq, beq_iff_eq, beq_eq_false_iff_ne] at *
                     first
                     | (rw [if_pos (by omega)]; done)
                     | (rw [if_neg (by omega)]; done)
                   rw [e]
                   exact J.met () (.cons rfl (.cons rfl (.cons rfl (.cons rfl (.cons rfl .nil))))) (fun w hw => hw)))
              | (try (exfalso; simp only [decide_eq_true_eq, decide_eq_false_iff_not, bne_iff_ne, ne_eq, bne_eq_false_iff_eq, beq_iff_eq, beq_eq_false_iff_ne] at *; omega)
                 all_goals (
                   have e : runeB (tRune c wd) = (L.drop pos).take n := by
                     rw [← hx]
                     try rw [hx1]
                     unfold refX
                     rw [hrr]
                     simp only [decide_eq_true_eq, decide_eq_false_iff_not, bne_iff_ne, ne_eq, bne_eq_false_iff_eq, beq_iff_eq, beq_eq_false_iff_ne] at *
                     first
                     | (rw [if_pos (by omega)]; done)
                     | (rw [if_neg (by omega)]; done)
                   rw [e]
                   exact J.met () (.cons rfl (.cons rfl (.cons rfl (.cons rfl (.cons rfl .nil))))) (fun w hw => hw)))
              | (try (exfalso; simp only [decide_eq_true_eq, decide_eq_false_iff_not, bne_iff_ne, ne_eq, bne_eq_false_iff_eq, beq_iff_eq, beq_eq_false_iff_ne] at *; omega)
                 all_goals (
                   have e : runeB (tRune c wd) = [32] := by
                     rw [← hx]
                     try rw [hx1]
                     unfold refX
                     rw [hrr]
                     simp only [decide_eq_true_eq, decide_eq_false_iff_not, bne_iff_ne, ne_eq, bne_eq_false_iff_eq, beq_iff_eq, beq_eq_false_iff_ne] at *
                     first
                     | (rw [if_pos (by omega)]; done)
                     | (rw [if_neg (by omega)]; done)
                   rw [e]
                   exact J.met () (.cons rfl (.cons rfl (.cons rfl (.cons rfl (.cons rfl .nil))))) (fun w hw => hw)))
              | (try (exfalso; simp only [decide_eq_true_eq, decide_eq_false_iff_not, bne_iff_ne, ne_eq, bne_eq_false_iff_eq, beq_iff_eq, beq_eq_false_iff_ne] at *; omega)
                 all_goals (
                   have e : runeB (tRune c wd) = x := by
                     rw [← hx]
                     try rw [hx1]
                     unfold refX
                     rw [hrr]
                     simp only [decide_eq_true_eq, decide_eq_false_iff_not, bne_iff_ne, ne_eq, bne_eq_false_iff_eq, beq_iff_eq, beq_eq_false_iff_ne] at *
                     first
                     | (rw [if_pos (by omega)]; done)
                     | (rw [if_neg (by omega)]; done)
                   rw [e]
                   exact J.met () (.cons rfl (.cons rfl (.cons rfl (.cons rfl (.cons rfl .nil))))) (fun w hw => hw)))
        · skip
          refine J.pass rfl rfl ?_
          refine J.pass rfl rfl ?_
          refine J.rd (Rd.pickF rfl rfl) rfl rfl ?_
          refine J.done ?_
          refine J.thenN ?_
          refine J.condF rfl ?_
          refine J.skip ?_
          refine J.thenN ?_
          first
            | (try (exfalso; simp only [decide_eq_true_eq, decide_eq_false_iff_not, bne_iff_ne, ne_eq, bne_eq_false_iff_eq, beq_iff_eq, beq_eq_false_iff_ne] at *; omega)
               all_goals (
                 have e : runeB (tRune c wd) = [226, 128, 153] := by
                   rw [← hx]
                   try rw [hx1]
                   unfold refX
                   rw [hrr]
                   simp only [decide_eq_true_eq, decide_eq_false_iff_not, bne_iff_ne, ne_eq, bne_eq_false_iff_eq, beq_iff_eq, beq_eq_false_iff_ne] at *
                   first
                   | (rw [if_pos (by omega)]; done)
                   | (rw [if_neg (by omega)]; done)
                 rw [e]
                 exact J.met () (.cons rfl (.cons rfl (.cons rfl (.cons rfl (.cons rfl .nil))))) (fun w hw => hw)))
            | (try (exfalso; simp only [decide_eq_true_eq, decide_eq_false_iff_not, bne_iff_ne, ne_eq, bne_eq_false_iff_eq, beq_iff_eq, beq_eq_false_iff_ne] at *; omega)
               all_goals (
                 have e : runeB (tRune c wd) = (L.drop pos).take n := by
                   rw [← hx]
                   try rw [hx1]
                   unfold refX
                   rw [hrr]
                   simp only [decide_eq_true_eq, decide_eq_false_iff_not, bne_iff_ne, ne_eq, bne_eq_false_iff_eq, beq_iff_eq, beq_eq_false_iff_ne] at *
                   first
                   | (rw [if_pos (by omega)]; done)
                   | (rw [if_neg (by omega)]; done)
                 rw [e]
                 exact J.met () (.cons rfl (.cons rfl (.cons rfl (.cons rfl (.cons rfl .nil))))) (fun w hw => hw)))
            | (try (exfalso; simp only [decide_eq_true_eq, decide_eq_false_iff_not, bne_iff_ne, ne_eq, bne_eq_false_iff_eq, beq_iff_eq, beq_eq_false_iff_ne] at *; omega)
               all_goals (
                 have e : runeB (tRune c wd) = [32] := by
                   rw [← hx]
                   try rw [hx1]
                   unfold refX
                   rw [hrr]
                   simp only [decide_eq_true_eq, decide_eq_false_iff_not, bne_iff_ne, ne_eq, bne_eq_false_iff_eq, beq_iff_eq, beq_eq_false_iff_ne] at *
                   first
                   | (rw [if_pos (by omega)]; done)
                   | (rw [if_neg (by omega)]; done)
                 rw [e]
                 exact J.met () (.cons rfl (.cons rfl (.cons rfl (.cons rfl (.cons rfl .nil))))) (fun w hw => hw)))
            | (try (exfalso; simp only [decide_eq_true_eq, decide_eq_false_iff_not, bne_iff_ne, ne_eq, bne_eq_false_iff_eq, beq_iff_eq, beq_eq_false_iff_ne] at *; omega)
               all_goals (
                 have e : runeB (tRune c wd) = x := by
                   rw [← hx]
                   try rw [hx1]
                   unfold refX
                   rw [hrr]
                   simp only [decide_eq_true_eq, decide_eq_false_iff_not, bne_iff_ne, ne_eq, bne_eq_false_iff_eq, beq_iff_eq, beq_eq_false_iff_ne] at *
                   first
                   | (rw [if_pos (by omega)]; done)
                   | (rw [if_neg (by omega)]; done)
                 rw [e]
                 exact J.met () (.cons rfl (.cons rfl (.cons rfl (.cons rfl (.cons rfl .nil))))) (fun w hw => hw)))
      · intro _
        refine J.seq ?_
        refine J.seq ?_
        refine J.region ?_
        refine J.rd (Rd.move rfl) rfl rfl ?_
        refine J.rd (Rd.lenStr rfl rfl Tryd.underlying9) rfl rfl ?_
        refine J.val (show _ = Value.int .i64 ((out.length : Nat) : Int) from congrArg (Value.int .i64) (by rw [bsize])) ?_
        refine J.rd (Rd.move rfl) rfl rfl ?_
        refine J.rd (Rd.lenStr rfl rfl Tryd.underlying9) rfl rfl ?_
        refine J.val (show _ = Value.int .i64 (((runeB (tRune c wd)).length : Nat) : Int) from congrArg (Value.int .i64) (by rw [bsize])) ?_
        refine J.rd (Rd.bin' rfl rfl rfl (fun _ => rfl)) rfl rfl ?_
        first | refine J.val (wI64 ⟨by omega, by omega⟩) ?_ | skip
        refine J.rd (Rd.bin' rfl rfl rfl (fun _ => rfl)) rfl rfl ?_
        refine J.done ?_
        refine J.thenN ?_
        refine J.cond rfl (fun hb8 => ?_) (fun hb8 => ?_)
        · skip
          refine J.seq ?_
          refine J.region ?_
          refine J.rd (Rd.move rfl) rfl rfl ?_
          refine J.rd (Rd.assign rfl) rfl rfl ?_
          refine J.done ?_
          refine J.thenN ?_
          refine J.ret ?_
          refine J.thenR ?_
          refine J.blockR ?_
          refine J.thenR ?_
          refine J.blockR ?_
          refine J.thenR ?_
          refine J.leave1 (.inr rfl) rfl rfl (fun w' hC => ?_)
          refine ⟨congrArg Value.string ?_, by first | exact hC | exact St.sub hC⟩
          first
          | (rw [hq1.full hlt hdl (by simp at hb8; omega)]; done)
          | (rw [hq1.over (by simp at hb1; omega)]; done)
        · skip
          refine J.skip ?_
          refine J.thenN ?_
          refine J.seq ?_
          refine J.region ?_
          refine J.rd (Rd.move rfl) rfl rfl ?_
          refine J.rd (Rd.move rfl) rfl rfl ?_
          refine J.rd (Rd.cat rfl rfl (by simp only [bsize]; omega)) rfl rfl ?_
          refine J.val (show _ = Value.string ⟨(out ++ runeB (tRune c wd)).toArray⟩ from congrArg Value.string (bcat _ _)) ?_
          refine J.rd (Rd.assign rfl) rfl rfl ?_
          refine J.done ?_
          refine J.thenN ?_
          refine J.seq ?_
          refine J.seq ?_
          refine J.region ?_
          refine J.rd (Rd.move rfl) rfl rfl ?_
          refine J.rd (Rd.bin' rfl rfl rfl (fun _ => rfl)) rfl rfl ?_
          refine J.done ?_
          refine J.thenN ?_
          refine J.cond rfl (fun hb9 => ?_) (fun hb9 => ?_)
          · skip
            refine J.region ?_
            refine J.rd (Rd.assign rfl) rfl rfl ?_
            refine J.done ?_
            refine J.thenN ?_
            refine J.region ?_
            refine J.rd (Rd.move rfl) rfl rfl ?_
            refine J.rd (Rd.move rfl) rfl rfl ?_
            refine J.rd (Rd.bin' rfl rfl rfl (fun _ => rfl)) rfl rfl ?_
            first | refine J.val (wI64 ⟨by omega, by omega⟩) ?_ | skip
            refine J.val (show _ = Value.int .i64 ((pos + wd : Nat) : Int) from congrArg (Value.int .i64) (by simp at hb9; first | (rw [if_pos hb9] at hrn; omega) | (rw [if_neg hb9] at hrn; omega))) ?_
            refine J.rd (Rd.assign rfl) rfl rfl ?_
            refine J.done ?_
            refine J.blockN ?_
            refine J.thenN ?_
            have hle : ¬ 60 < out.length + (runeB (tRune c wd)).length := by simp at hb8; omega
            refine J.again (pos, out) (pos + wd, out ++ runeB (tRune c wd)) (by show L.length - (pos + wd) < L.length - pos; omega) (.cons rfl (.cons rfl (.cons rfl .nil))) (fun w hw => ⟨⟨hq1.next hlt hdl hle, by simp only [List.length_append]; omega, by simp only; omega⟩, hw⟩)
          · skip
            refine J.skip ?_
            refine J.thenN ?_
            refine J.region ?_
            refine J.rd (Rd.move rfl) rfl rfl ?_
            refine J.rd (Rd.move rfl) rfl rfl ?_
            refine J.rd (Rd.bin' rfl rfl rfl (fun _ => rfl)) rfl rfl ?_
            first | refine J.val (wI64 ⟨by omega, by omega⟩) ?_ | skip
            refine J.val (show _ = Value.int .i64 ((pos + wd : Nat) : Int) from congrArg (Value.int .i64) (by simp at hb9; first | (rw [if_pos hb9] at hrn; omega) | (rw [if_neg hb9] at hrn; omega))) ?_
            refine J.rd (Rd.assign rfl) rfl rfl ?_
            refine J.done ?_
            refine J.blockN ?_
            refine J.thenN ?_
            have hle : ¬ 60 < out.length + (runeB (tRune c wd)).length := by simp at hb8; omega
            refine J.again (pos, out) (pos + wd, out ++ runeB (tRune c wd)) (by show L.length - (pos + wd) < L.length - pos; omega) (.cons rfl (.cons rfl (.cons rfl .nil))) (fun w hw => ⟨⟨hq1.next hlt hdl hle, by simp only [List.length_append]; omega, by simp only; omega⟩, hw⟩)
  · skip
    refine J.exit ?_
    refine J.thenE ?_
    refine J.thenE ?_
    refine J.blockE ?_
    refine J.thenN ?_
    refine J.seq ?_
    refine J.region ?_
    refine J.rd (Rd.move rfl) rfl rfl ?_
    refine J.rd (Rd.assign rfl) rfl rfl ?_
    refine J.done ?_
    refine J.thenN ?_
    refine J.ret ?_
    refine J.leave1 (.inr rfl) rfl rfl (fun w' hC => ?_)
    refine ⟨congrArg Value.string ?_, by first | exact hC | exact St.sub hC⟩
    first
    | (rw [hq1.full hlt hdl (by simp at hb8; omega)]; done)
    | (rw [hq1.over (by simp at hb1; omega)]; done)
end Go.Proofs.YtdpfdpmjnifanaaDoor.Reftitle
