/- word.Title. -/
import Derived.Test.YtdpfdpmjnifanaaDoorProg
import Derived.KernelRfl
import Derived.Test.YtdpfdpmjnifanaaDoorStr
import Derived.Test.YtdpfdpmjnifanaaDoorTitlePure
import Derived.Test.YtdpfdpmjnifanaaDoorBuilder
import Derived.Test.YtdpfdpmjnifanaaDoorUtf8
import Derived.Test.YtdpfdpmjnifanaaDoorDec
namespace Go.Proofs.YtdpfdpmjnifanaaDoor.Title
open Go Go.RowKit Go.Sb
set_option maxRecDepth 100000
set_option linter.unusedVariables false
set_option linter.unusedSimpArgs false
theorem mixed : Tryd.prog.follows .mixedOrders = true := by kernel_rfl
theorem ti105 : TI Tryd.prog 105 2 32 (.agg #[.pointer none, .slice none 0 0]) := TI.of (by kernel_rfl)
theorem can50 : Callable Tryd.prog 50 := ⟨Tryd.f50, Tryd.func50, by kernel_rfl, by kernel_rfl⟩
theorem can51 : Callable Tryd.prog 51 := ⟨Tryd.f51, Tryd.func51, by kernel_rfl, by kernel_rfl⟩
theorem can68 : Callable Tryd.prog 68 := ⟨Tryd.f68, Tryd.func68, by kernel_rfl, by kernel_rfl⟩
theorem can69 : Callable Tryd.prog 69 := ⟨Tryd.f69, Tryd.func69, by kernel_rfl, by kernel_rfl⟩
theorem can70 : Callable Tryd.prog 70 := ⟨Tryd.f70, Tryd.func70, by kernel_rfl, by kernel_rfl⟩

theorem Title_calls {Z w : World} {Lf : List HP} (s : ByteArray) (hT : ∀ w, St Z w Lf → Lib.Utf8Tabs 1 2 w) (hs : s.size ≤ 9223372036854775807) (hst : St Z w Lf) : Calls Tryd.prog 47 #[.string s] w (Ret fun r w' => r = .string ⟨(titleF s.data.toList).toArray⟩ ∧ St Z w' Lf) := by
  refine J.enter (N := 51) (l := [.string s]) (C := Sto Z Lf) Tryd.func47 rfl Tryd.ntmps47 (by simp) (hst) ?_
  refine J.seq ?_
  refine J.region ?_
  refine J.rd (Rd.assign rfl) rfl rfl ?_
  refine J.done ?_
  refine J.thenN ?_
  refine J.seq ?_
  refine J.region ?_
  refine J.allocT ti105 rfl rfl rfl (fun b3 => ?_)
  refine J.done ?_
  refine J.thenN ?_
  refine J.seq ?_
  refine J.seq ?_
  refine J.region ?_
  refine J.rd (Rd.move rfl) rfl rfl ?_
  refine J.rangeStr Tryd.underlying9 rfl rfl rfl (fun b9 => ?_)
  refine J.done ?_
  refine J.thenN ?_
  refine J.block ?_
  refine J.loop (σ := Nat × List UInt8 × Value × Value) (fun q => s.size - q.1) (fun _ => [(0, .string s), (3, .pointer (some ⟨b3, 0, none⟩)), (9, .pointer (some ⟨b9, 0, none⟩))])
    (fun q w => (TitleAt s.data.toList q.1 q.2.1 ∧ Builder.Adr b3 q.2.2.1 ∧ q.2.1.length ≤ 60 ∧ (q.2.1 = [] → q.2.2.2 = .slice none 0 0)) ∧ St Z w (pts b9 (.stringIter s q.1) :: pts b3 (.cells [q.2.2.1, q.2.2.2].toArray 105 (0, 0)) :: own 5 1 q.2.2.2 q.2.1.length (bytesV q.2.1) :: Lf))
    (0, [], .pointer none, .slice none 0 0) (.cons rfl (.cons rfl (.cons rfl .nil))) (fun w hw => ⟨⟨TitleAt.start _, .inl rfl, by simp, fun _ => rfl⟩, by
      show St Z w (pts b9 (.stringIter s 0) :: pts b3 (.cells [.pointer none, .slice none 0 0].toArray 105 (0, 0)) :: own 5 1 (.slice none 0 0) 0 [] :: Lf)
      exact St.sub (St.ownNil 5 1 hw)⟩) ?_
  rintro ⟨pos, out, A, v⟩
  refine J.andC fun hq => ?_
  obtain ⟨hq1, hq2, hq3, hq4⟩ := hq
  simp only at hq1 hq2 hq3 hq4
  have hsz : s.data.toList.length = s.size := by simp
  skip
  refine J.seq ?_
  refine J.region ?_
  by_cases hlt1 : pos < s.size
  · refine J.nextT rfl hlt1 rfl rfl ?_
    have hdl := Lib.decodeL_drop s pos
    obtain ⟨c, wd, hdec⟩ : ∃ c wd, Utf8.decode s pos = (c, wd) := ⟨_, _, rfl⟩
    have hv := decodeL_valid (s.data.toList.drop pos)
    have hw1 := Lib.decodeL_width (s.data.toList.drop pos)
    rw [hdl, hdec] at hv hw1
    rw [hdec] at hdl
    simp only at hv hw1
    simp only [hdec]
    obtain ⟨hr1, hr2⟩ := tRune_le (wd := wd) hv
    refine J.rd (Rd.extractL rfl) rfl rfl ?_
    refine J.done ?_
    refine J.thenN ?_
    refine J.seq ?_
    refine J.condT rfl ?_
    refine J.skip ?_
    refine J.thenN ?_
    refine J.block ?_
    refine J.seq ?_
    refine J.region ?_
    refine J.rd (Rd.extractL rfl) rfl rfl ?_
    refine J.rd (Rd.extractL rfl) rfl rfl ?_
    refine J.rd (Rd.assign rfl) rfl rfl ?_
    refine J.rd (Rd.assign rfl) rfl rfl ?_
    refine J.done ?_
    refine J.thenN ?_
    refine J.seq ?_
    refine J.region ?_
    refine J.rd (Rd.move rfl) rfl rfl ?_
    refine J.rd (Rd.move rfl) rfl rfl ?_
    refine J.rd (Rd.sliceStr (l := pos) (h := s.size) Tryd.underlying9 rfl ⟨_, rfl, rfl⟩ ⟨rfl, rfl⟩ (by omega) (Nat.le_refl _)) rfl rfl ?_
    refine J.call can68 rfl (fun w hC => Dec.decode (fun w hw => hT w (St.sub hw)) hC) rfl rfl (fun v18 => ?_)
    refine J.andC fun hv18 => ?_
    rw [decodeGo_drop s pos (by omega), hdec] at hv18
    subst hv18
    refine J.rd (Rd.move rfl) rfl rfl ?_
    refine J.rd (Rd.extractL rfl) rfl rfl ?_
    refine J.rd (Rd.extractL rfl) rfl rfl ?_
    refine J.rd (Rd.assign rfl) rfl rfl ?_
    refine J.rd (Rd.assign rfl) rfl rfl ?_
    refine J.done ?_
    refine J.thenN ?_
    refine J.cut (σ := Unit) (fun _ => [(0, .string s), (3, .pointer (some ⟨b3, 0, none⟩)), (9, .pointer (some ⟨b9, 0, none⟩)), (5, .int .i32 (tRune c wd : Nat))]) (fun _ => Sto Z (pts b9 (.stringIter s (pos + wd)) :: pts b3 (.cells [A, v].toArray 105 (0, 0)) :: own 5 1 v out.length (bytesV out) :: Lf)) ?_ ?_
    · skip
      refine J.block ?_
      refine J.seq ?_
      refine J.region ?_
      refine J.rd (Rd.move rfl) rfl rfl ?_
      refine J.rd (Rd.bin' rfl rfl rfl (fun _ => rfl)) rfl rfl ?_
      refine J.rd (Rd.move rfl) rfl rfl ?_
      refine J.bcase (fun hb2 => ?_) (fun hb2 => ?_)
      · skip
        refine J.rd (Rd.move rfl) rfl rfl ?_
        refine J.rd (Rd.bin' rfl rfl rfl (fun _ => rfl)) rfl rfl ?_
        refine J.rd (Rd.pickT rfl rfl) rfl rfl ?_
        refine J.rd (Rd.move rfl) rfl rfl ?_
        refine J.bcase (fun hb3 => ?_) (fun hb3 => ?_)
        · skip
          refine J.pass rfl rfl ?_
          refine J.pass rfl rfl ?_
          refine J.rd (Rd.pickT rfl rfl) rfl rfl ?_
          refine J.rd (Rd.move rfl) rfl rfl ?_
          refine J.pass rfl rfl ?_
          refine J.pass rfl rfl ?_
          refine J.rd (Rd.pickT rfl rfl) rfl rfl ?_
          refine J.rd (Rd.move rfl) rfl rfl ?_
          refine J.pass rfl rfl ?_
          refine J.pass rfl rfl ?_
          refine J.rd (Rd.pickT rfl rfl) rfl rfl ?_
          refine J.rd (Rd.assign rfl) rfl rfl ?_
          refine J.done ?_
          refine J.thenN ?_
          refine J.condT rfl ?_
          refine J.region ?_
          refine J.rd (Rd.assign rfl) rfl rfl ?_
          refine J.done ?_
          refine J.blockN ?_
          refine J.thenN ?_
          first
            | (have e : tRune c wd = 32 := by
                 unfold tRune
                 simp only [beq_iff_eq, beq_eq_false_iff_ne, decide_eq_true_eq, decide_eq_false_iff_not, ne_eq] at *
                 first | (exfalso; omega) | (rw [if_pos (by omega)]; done) | (rw [if_neg (by omega), if_pos (by omega)]; done) | (rw [if_neg (by omega), if_neg (by omega)]; done)
               rw [e]
               exact J.met () (.cons rfl (.cons rfl (.cons rfl (.cons rfl .nil)))) (fun w hw => hw))
            | (have e : tRune c wd = 8217 := by
                 unfold tRune
                 simp only [beq_iff_eq, beq_eq_false_iff_ne, decide_eq_true_eq, decide_eq_false_iff_not, ne_eq] at *
                 first | (exfalso; omega) | (rw [if_pos (by omega)]; done) | (rw [if_neg (by omega), if_pos (by omega)]; done) | (rw [if_neg (by omega), if_neg (by omega)]; done)
               rw [e]
               exact J.met () (.cons rfl (.cons rfl (.cons rfl (.cons rfl .nil)))) (fun w hw => hw))
            | (have e : tRune c wd = c := by
                 unfold tRune
                 simp only [beq_iff_eq, beq_eq_false_iff_ne, decide_eq_true_eq, decide_eq_false_iff_not, ne_eq] at *
                 first | (exfalso; omega) | (rw [if_pos (by omega)]; done) | (rw [if_neg (by omega), if_pos (by omega)]; done) | (rw [if_neg (by omega), if_neg (by omega)]; done)
               rw [e]
               exact J.met () (.cons rfl (.cons rfl (.cons rfl (.cons rfl .nil)))) (fun w hw => hw))
        · skip
          refine J.rd (Rd.move rfl) rfl rfl ?_
          refine J.rd (Rd.bin' rfl rfl rfl (fun _ => rfl)) rfl rfl ?_
          refine J.rd (Rd.pickF rfl rfl) rfl rfl ?_
          refine J.rd (Rd.move rfl) rfl rfl ?_
          refine J.bcase (fun hb4 => ?_) (fun hb4 => ?_)
          · skip
            refine J.pass rfl rfl ?_
            refine J.pass rfl rfl ?_
            refine J.rd (Rd.pickT rfl rfl) rfl rfl ?_
            refine J.rd (Rd.move rfl) rfl rfl ?_
            refine J.pass rfl rfl ?_
            refine J.pass rfl rfl ?_
            refine J.rd (Rd.pickT rfl rfl) rfl rfl ?_
            refine J.rd (Rd.assign rfl) rfl rfl ?_
            refine J.done ?_
            refine J.thenN ?_
            refine J.condT rfl ?_
            refine J.region ?_
            refine J.rd (Rd.assign rfl) rfl rfl ?_
            refine J.done ?_
            refine J.blockN ?_
            refine J.thenN ?_
            first
              | (have e : tRune c wd = 32 := by
                   unfold tRune
                   simp only [beq_iff_eq, beq_eq_false_iff_ne, decide_eq_true_eq, decide_eq_false_iff_not, ne_eq] at *
                   first | (exfalso; omega) | (rw [if_pos (by omega)]; done) | (rw [if_neg (by omega), if_pos (by omega)]; done) | (rw [if_neg (by omega), if_neg (by omega)]; done)
                 rw [e]
                 exact J.met () (.cons rfl (.cons rfl (.cons rfl (.cons rfl .nil)))) (fun w hw => hw))
              | (have e : tRune c wd = 8217 := by
                   unfold tRune
                   simp only [beq_iff_eq, beq_eq_false_iff_ne, decide_eq_true_eq, decide_eq_false_iff_not, ne_eq] at *
                   first | (exfalso; omega) | (rw [if_pos (by omega)]; done) | (rw [if_neg (by omega), if_pos (by omega)]; done) | (rw [if_neg (by omega), if_neg (by omega)]; done)
                 rw [e]
                 exact J.met () (.cons rfl (.cons rfl (.cons rfl (.cons rfl .nil)))) (fun w hw => hw))
              | (have e : tRune c wd = c := by
                   unfold tRune
                   simp only [beq_iff_eq, beq_eq_false_iff_ne, decide_eq_true_eq, decide_eq_false_iff_not, ne_eq] at *
                   first | (exfalso; omega) | (rw [if_pos (by omega)]; done) | (rw [if_neg (by omega), if_pos (by omega)]; done) | (rw [if_neg (by omega), if_neg (by omega)]; done)
                 rw [e]
                 exact J.met () (.cons rfl (.cons rfl (.cons rfl (.cons rfl .nil)))) (fun w hw => hw))
          · skip
            refine J.rd (Rd.move rfl) rfl rfl ?_
            refine J.rd (Rd.bin' rfl rfl rfl (fun _ => rfl)) rfl rfl ?_
            refine J.rd (Rd.pickF rfl rfl) rfl rfl ?_
            refine J.rd (Rd.move rfl) rfl rfl ?_
            refine J.bcase (fun hb5 => ?_) (fun hb5 => ?_)
            · skip
              refine J.pass rfl rfl ?_
              refine J.pass rfl rfl ?_
              refine J.rd (Rd.pickT rfl rfl) rfl rfl ?_
              refine J.rd (Rd.assign rfl) rfl rfl ?_
              refine J.done ?_
              refine J.thenN ?_
              refine J.condT rfl ?_
              refine J.region ?_
              refine J.rd (Rd.assign rfl) rfl rfl ?_
              refine J.done ?_
              refine J.blockN ?_
              refine J.thenN ?_
              first
                | (have e : tRune c wd = 32 := by
                     unfold tRune
                     simp only [beq_iff_eq, beq_eq_false_iff_ne, decide_eq_true_eq, decide_eq_false_iff_not, ne_eq] at *
                     first | (exfalso; omega) | (rw [if_pos (by omega)]; done) | (rw [if_neg (by omega), if_pos (by omega)]; done) | (rw [if_neg (by omega), if_neg (by omega)]; done)
                   rw [e]
                   exact J.met () (.cons rfl (.cons rfl (.cons rfl (.cons rfl .nil)))) (fun w hw => hw))
                | (have e : tRune c wd = 8217 := by
                     unfold tRune
                     simp only [beq_iff_eq, beq_eq_false_iff_ne, decide_eq_true_eq, decide_eq_false_iff_not, ne_eq] at *
                     first | (exfalso; omega) | (rw [if_pos (by omega)]; done) | (rw [if_neg (by omega), if_pos (by omega)]; done) | (rw [if_neg (by omega), if_neg (by omega)]; done)
                   rw [e]
                   exact J.met () (.cons rfl (.cons rfl (.cons rfl (.cons rfl .nil)))) (fun w hw => hw))
                | (have e : tRune c wd = c := by
                     unfold tRune
                     simp only [beq_iff_eq, beq_eq_false_iff_ne, decide_eq_true_eq, decide_eq_false_iff_not, ne_eq] at *
                     first | (exfalso; omega) | (rw [if_pos (by omega)]; done) | (rw [if_neg (by omega), if_pos (by omega)]; done) | (rw [if_neg (by omega), if_neg (by omega)]; done)
                   rw [e]
                   exact J.met () (.cons rfl (.cons rfl (.cons rfl (.cons rfl .nil)))) (fun w hw => hw))
            · skip
              refine J.rd (Rd.move rfl) rfl rfl ?_
              refine J.rd (Rd.bin' rfl rfl rfl (fun _ => rfl)) rfl rfl ?_
              refine J.rd (Rd.pickF rfl rfl) rfl rfl ?_
              refine J.rd (Rd.assign rfl) rfl rfl ?_
              refine J.done ?_
              refine J.thenN ?_
              refine J.cond rfl (fun hb6 => ?_) (fun hb6 => ?_)
              · skip
                refine J.region ?_
                refine J.rd (Rd.assign rfl) rfl rfl ?_
                refine J.done ?_
                refine J.blockN ?_
                refine J.thenN ?_
                first
                  | (have e : tRune c wd = 32 := by
                       unfold tRune
                       simp only [beq_iff_eq, beq_eq_false_iff_ne, decide_eq_true_eq, decide_eq_false_iff_not, ne_eq] at *
                       first | (exfalso; omega) | (rw [if_pos (by omega)]; done) | (rw [if_neg (by omega), if_pos (by omega)]; done) | (rw [if_neg (by omega), if_neg (by omega)]; done)
                     rw [e]
                     exact J.met () (.cons rfl (.cons rfl (.cons rfl (.cons rfl .nil)))) (fun w hw => hw))
                  | (have e : tRune c wd = 8217 := by
                       unfold tRune
                       simp only [beq_iff_eq, beq_eq_false_iff_ne, decide_eq_true_eq, decide_eq_false_iff_not, ne_eq] at *
                       first | (exfalso; omega) | (rw [if_pos (by omega)]; done) | (rw [if_neg (by omega), if_pos (by omega)]; done) | (rw [if_neg (by omega), if_neg (by omega)]; done)
                     rw [e]
                     exact J.met () (.cons rfl (.cons rfl (.cons rfl (.cons rfl .nil)))) (fun w hw => hw))
                  | (have e : tRune c wd = c := by
                       unfold tRune
                       simp only [beq_iff_eq, beq_eq_false_iff_ne, decide_eq_true_eq, decide_eq_false_iff_not, ne_eq] at *
                       first | (exfalso; omega) | (rw [if_pos (by omega)]; done) | (rw [if_neg (by omega), if_pos (by omega)]; done) | (rw [if_neg (by omega), if_neg (by omega)]; done)
                     rw [e]
                     exact J.met () (.cons rfl (.cons rfl (.cons rfl (.cons rfl .nil)))) (fun w hw => hw))
              · skip
                refine J.seq ?_
                refine J.region ?_
                refine J.rd (Rd.move rfl) rfl rfl ?_
                refine J.rd (Rd.bin' rfl rfl rfl (fun _ => rfl)) rfl rfl ?_
                refine J.rd (Rd.assign rfl) rfl rfl ?_
                refine J.done ?_
                refine J.thenN ?_
                refine J.cond rfl (fun hb7 => ?_) (fun hb7 => ?_)
                · skip
                  refine J.region ?_
                  refine J.rd (Rd.assign rfl) rfl rfl ?_
                  refine J.done ?_
                  refine J.blockN ?_
                  refine J.thenN ?_
                  first
                    | (have e : tRune c wd = 32 := by
                         unfold tRune
                         simp only [beq_iff_eq, beq_eq_false_iff_ne, decide_eq_true_eq, decide_eq_false_iff_not, ne_eq] at *
                         first | (exfalso; omega) | (rw [if_pos (by omega)]; done) | (rw [if_neg (by omega), if_pos (by omega)]; done) | (rw [if_neg (by omega), if_neg (by omega)]; done)
                       rw [e]
                       exact J.met () (.cons rfl (.cons rfl (.cons rfl (.cons rfl .nil)))) (fun w hw => hw))
                    | (have e : tRune c wd = 8217 := by
                         unfold tRune
                         simp only [beq_iff_eq, beq_eq_false_iff_ne, decide_eq_true_eq, decide_eq_false_iff_not, ne_eq] at *
                         first | (exfalso; omega) | (rw [if_pos (by omega)]; done) | (rw [if_neg (by omega), if_pos (by omega)]; done) | (rw [if_neg (by omega), if_neg (by omega)]; done)
                       rw [e]
                       exact J.met () (.cons rfl (.cons rfl (.cons rfl (.cons rfl .nil)))) (fun w hw => hw))
                    | (have e : tRune c wd = c := by
                         unfold tRune
                         simp only [beq_iff_eq, beq_eq_false_iff_ne, decide_eq_true_eq, decide_eq_false_iff_not, ne_eq] at *
                         first | (exfalso; omega) | (rw [if_pos (by omega)]; done) | (rw [if_neg (by omega), if_pos (by omega)]; done) | (rw [if_neg (by omega), if_neg (by omega)]; done)
                       rw [e]
                       exact J.met () (.cons rfl (.cons rfl (.cons rfl (.cons rfl .nil)))) (fun w hw => hw))
                · skip
                  refine J.skip ?_
                  refine J.blockN ?_
                  refine J.thenN ?_
                  first
                    | (have e : tRune c wd = 32 := by
                         unfold tRune
                         simp only [beq_iff_eq, beq_eq_false_iff_ne, decide_eq_true_eq, decide_eq_false_iff_not, ne_eq] at *
                         first | (exfalso; omega) | (rw [if_pos (by omega)]; done) | (rw [if_neg (by omega), if_pos (by omega)]; done) | (rw [if_neg (by omega), if_neg (by omega)]; done)
                       rw [e]
                       exact J.met () (.cons rfl (.cons rfl (.cons rfl (.cons rfl .nil)))) (fun w hw => hw))
                    | (have e : tRune c wd = 8217 := by
                         unfold tRune
                         simp only [beq_iff_eq, beq_eq_false_iff_ne, decide_eq_true_eq, decide_eq_false_iff_not, ne_eq] at *
                         first | (exfalso; omega) | (rw [if_pos (by omega)]; done) | (rw [if_neg (by omega), if_pos (by omega)]; done) | (rw [if_neg (by omega), if_neg (by omega)]; done)
                       rw [e]
                       exact J.met () (.cons rfl (.cons rfl (.cons rfl (.cons rfl .nil)))) (fun w hw => hw))
                    | (have e : tRune c wd = c := by
                         unfold tRune
                         simp only [beq_iff_eq, beq_eq_false_iff_ne, decide_eq_true_eq, decide_eq_false_iff_not, ne_eq] at *
                         first | (exfalso; omega) | (rw [if_pos (by omega)]; done) | (rw [if_neg (by omega), if_pos (by omega)]; done) | (rw [if_neg (by omega), if_neg (by omega)]; done)
                       rw [e]
                       exact J.met () (.cons rfl (.cons rfl (.cons rfl (.cons rfl .nil)))) (fun w hw => hw))
      · skip
        refine J.pass rfl rfl ?_
        refine J.pass rfl rfl ?_
        refine J.rd (Rd.pickF rfl rfl) rfl rfl ?_
        refine J.rd (Rd.move rfl) rfl rfl ?_
        refine J.rd (Rd.move rfl) rfl rfl ?_
        refine J.rd (Rd.bin' rfl rfl rfl (fun _ => rfl)) rfl rfl ?_
        refine J.rd (Rd.pickF rfl rfl) rfl rfl ?_
        refine J.rd (Rd.move rfl) rfl rfl ?_
        refine J.bcase (fun hb8 => ?_) (fun hb8 => ?_)
        · skip
          refine J.pass rfl rfl ?_
          refine J.pass rfl rfl ?_
          refine J.rd (Rd.pickT rfl rfl) rfl rfl ?_
          refine J.rd (Rd.move rfl) rfl rfl ?_
          refine J.pass rfl rfl ?_
          refine J.pass rfl rfl ?_
          refine J.rd (Rd.pickT rfl rfl) rfl rfl ?_
          refine J.rd (Rd.assign rfl) rfl rfl ?_
          refine J.done ?_
          refine J.thenN ?_
          refine J.condT rfl ?_
          refine J.region ?_
          refine J.rd (Rd.assign rfl) rfl rfl ?_
          refine J.done ?_
          refine J.blockN ?_
          refine J.thenN ?_
          first
            | (have e : tRune c wd = 32 := by
                 unfold tRune
                 simp only [beq_iff_eq, beq_eq_false_iff_ne, decide_eq_true_eq, decide_eq_false_iff_not, ne_eq] at *
                 first | (exfalso; omega) | (rw [if_pos (by omega)]; done) | (rw [if_neg (by omega), if_pos (by omega)]; done) | (rw [if_neg (by omega), if_neg (by omega)]; done)
               rw [e]
               exact J.met () (.cons rfl (.cons rfl (.cons rfl (.cons rfl .nil)))) (fun w hw => hw))
            | (have e : tRune c wd = 8217 := by
                 unfold tRune
                 simp only [beq_iff_eq, beq_eq_false_iff_ne, decide_eq_true_eq, decide_eq_false_iff_not, ne_eq] at *
                 first | (exfalso; omega) | (rw [if_pos (by omega)]; done) | (rw [if_neg (by omega), if_pos (by omega)]; done) | (rw [if_neg (by omega), if_neg (by omega)]; done)
               rw [e]
               exact J.met () (.cons rfl (.cons rfl (.cons rfl (.cons rfl .nil)))) (fun w hw => hw))
            | (have e : tRune c wd = c := by
                 unfold tRune
                 simp only [beq_iff_eq, beq_eq_false_iff_ne, decide_eq_true_eq, decide_eq_false_iff_not, ne_eq] at *
                 first | (exfalso; omega) | (rw [if_pos (by omega)]; done) | (rw [if_neg (by omega), if_pos (by omega)]; done) | (rw [if_neg (by omega), if_neg (by omega)]; done)
               rw [e]
               exact J.met () (.cons rfl (.cons rfl (.cons rfl (.cons rfl .nil)))) (fun w hw => hw))
        · skip
          refine J.rd (Rd.move rfl) rfl rfl ?_
          refine J.rd (Rd.bin' rfl rfl rfl (fun _ => rfl)) rfl rfl ?_
          refine J.rd (Rd.pickF rfl rfl) rfl rfl ?_
          refine J.rd (Rd.move rfl) rfl rfl ?_
          refine J.bcase (fun hb9 => ?_) (fun hb9 => ?_)
          · skip
            refine J.pass rfl rfl ?_
            refine J.pass rfl rfl ?_
            refine J.rd (Rd.pickT rfl rfl) rfl rfl ?_
            refine J.rd (Rd.assign rfl) rfl rfl ?_
            refine J.done ?_
            refine J.thenN ?_
            refine J.condT rfl ?_
            refine J.region ?_
            refine J.rd (Rd.assign rfl) rfl rfl ?_
            refine J.done ?_
            refine J.blockN ?_
            refine J.thenN ?_
            first
              | (have e : tRune c wd = 32 := by
                   unfold tRune
                   simp only [beq_iff_eq, beq_eq_false_iff_ne, decide_eq_true_eq, decide_eq_false_iff_not, ne_eq] at *
                   first | (exfalso; omega) | (rw [if_pos (by omega)]; done) | (rw [if_neg (by omega), if_pos (by omega)]; done) | (rw [if_neg (by omega), if_neg (by omega)]; done)
                 rw [e]
                 exact J.met () (.cons rfl (.cons rfl (.cons rfl (.cons rfl .nil)))) (fun w hw => hw))
              | (have e : tRune c wd = 8217 := by
                   unfold tRune
                   simp only [beq_iff_eq, beq_eq_false_iff_ne, decide_eq_true_eq, decide_eq_false_iff_not, ne_eq] at *
                   first | (exfalso; omega) | (rw [if_pos (by omega)]; done) | (rw [if_neg (by omega), if_pos (by omega)]; done) | (rw [if_neg (by omega), if_neg (by omega)]; done)
                 rw [e]
                 exact J.met () (.cons rfl (.cons rfl (.cons rfl (.cons rfl .nil)))) (fun w hw => hw))
              | (have e : tRune c wd = c := by
                   unfold tRune
                   simp only [beq_iff_eq, beq_eq_false_iff_ne, decide_eq_true_eq, decide_eq_false_iff_not, ne_eq] at *
                   first | (exfalso; omega) | (rw [if_pos (by omega)]; done) | (rw [if_neg (by omega), if_pos (by omega)]; done) | (rw [if_neg (by omega), if_neg (by omega)]; done)
                 rw [e]
                 exact J.met () (.cons rfl (.cons rfl (.cons rfl (.cons rfl .nil)))) (fun w hw => hw))
          · skip
            refine J.rd (Rd.move rfl) rfl rfl ?_
            refine J.rd (Rd.bin' rfl rfl rfl (fun _ => rfl)) rfl rfl ?_
            refine J.rd (Rd.pickF rfl rfl) rfl rfl ?_
            refine J.rd (Rd.assign rfl) rfl rfl ?_
            refine J.done ?_
            refine J.thenN ?_
            refine J.cond rfl (fun hb10 => ?_) (fun hb10 => ?_)
            · skip
              refine J.region ?_
              refine J.rd (Rd.assign rfl) rfl rfl ?_
              refine J.done ?_
              refine J.blockN ?_
              refine J.thenN ?_
              first
                | (have e : tRune c wd = 32 := by
                     unfold tRune
                     simp only [beq_iff_eq, beq_eq_false_iff_ne, decide_eq_true_eq, decide_eq_false_iff_not, ne_eq] at *
                     first | (exfalso; omega) | (rw [if_pos (by omega)]; done) | (rw [if_neg (by omega), if_pos (by omega)]; done) | (rw [if_neg (by omega), if_neg (by omega)]; done)
                   rw [e]
                   exact J.met () (.cons rfl (.cons rfl (.cons rfl (.cons rfl .nil)))) (fun w hw => hw))
                | (have e : tRune c wd = 8217 := by
                     unfold tRune
                     simp only [beq_iff_eq, beq_eq_false_iff_ne, decide_eq_true_eq, decide_eq_false_iff_not, ne_eq] at *
                     first | (exfalso; omega) | (rw [if_pos (by omega)]; done) | (rw [if_neg (by omega), if_pos (by omega)]; done) | (rw [if_neg (by omega), if_neg (by omega)]; done)
                   rw [e]
                   exact J.met () (.cons rfl (.cons rfl (.cons rfl (.cons rfl .nil)))) (fun w hw => hw))
                | (have e : tRune c wd = c := by
                     unfold tRune
                     simp only [beq_iff_eq, beq_eq_false_iff_ne, decide_eq_true_eq, decide_eq_false_iff_not, ne_eq] at *
                     first | (exfalso; omega) | (rw [if_pos (by omega)]; done) | (rw [if_neg (by omega), if_pos (by omega)]; done) | (rw [if_neg (by omega), if_neg (by omega)]; done)
                   rw [e]
                   exact J.met () (.cons rfl (.cons rfl (.cons rfl (.cons rfl .nil)))) (fun w hw => hw))
            · skip
              refine J.seq ?_
              refine J.region ?_
              refine J.rd (Rd.move rfl) rfl rfl ?_
              refine J.rd (Rd.bin' rfl rfl rfl (fun _ => rfl)) rfl rfl ?_
              refine J.rd (Rd.assign rfl) rfl rfl ?_
              refine J.done ?_
              refine J.thenN ?_
              refine J.cond rfl (fun hb11 => ?_) (fun hb11 => ?_)
              · skip
                refine J.region ?_
                refine J.rd (Rd.assign rfl) rfl rfl ?_
                refine J.done ?_
                refine J.blockN ?_
                refine J.thenN ?_
                first
                  | (have e : tRune c wd = 32 := by
                       unfold tRune
                       simp only [beq_iff_eq, beq_eq_false_iff_ne, decide_eq_true_eq, decide_eq_false_iff_not, ne_eq] at *
                       first | (exfalso; omega) | (rw [if_pos (by omega)]; done) | (rw [if_neg (by omega), if_pos (by omega)]; done) | (rw [if_neg (by omega), if_neg (by omega)]; done)
                     rw [e]
                     exact J.met () (.cons rfl (.cons rfl (.cons rfl (.cons rfl .nil)))) (fun w hw => hw))
                  | (have e : tRune c wd = 8217 := by
                       unfold tRune
                       simp only [beq_iff_eq, beq_eq_false_iff_ne, decide_eq_true_eq, decide_eq_false_iff_not, ne_eq] at *
                       first | (exfalso; omega) | (rw [if_pos (by omega)]; done) | (rw [if_neg (by omega), if_pos (by omega)]; done) | (rw [if_neg (by omega), if_neg (by omega)]; done)
                     rw [e]
                     exact J.met () (.cons rfl (.cons rfl (.cons rfl (.cons rfl .nil)))) (fun w hw => hw))
                  | (have e : tRune c wd = c := by
                       unfold tRune
                       simp only [beq_iff_eq, beq_eq_false_iff_ne, decide_eq_true_eq, decide_eq_false_iff_not, ne_eq] at *
                       first | (exfalso; omega) | (rw [if_pos (by omega)]; done) | (rw [if_neg (by omega), if_pos (by omega)]; done) | (rw [if_neg (by omega), if_neg (by omega)]; done)
                     rw [e]
                     exact J.met () (.cons rfl (.cons rfl (.cons rfl (.cons rfl .nil)))) (fun w hw => hw))
              · skip
                refine J.skip ?_
                refine J.blockN ?_
                refine J.thenN ?_
                first
                  | (have e : tRune c wd = 32 := by
                       unfold tRune
                       simp only [beq_iff_eq, beq_eq_false_iff_ne, decide_eq_true_eq, decide_eq_false_iff_not, ne_eq] at *
                       first | (exfalso; omega) | (rw [if_pos (by omega)]; done) | (rw [if_neg (by omega), if_pos (by omega)]; done) | (rw [if_neg (by omega), if_neg (by omega)]; done)
                     rw [e]
                     exact J.met () (.cons rfl (.cons rfl (.cons rfl (.cons rfl .nil)))) (fun w hw => hw))
                  | (have e : tRune c wd = 8217 := by
                       unfold tRune
                       simp only [beq_iff_eq, beq_eq_false_iff_ne, decide_eq_true_eq, decide_eq_false_iff_not, ne_eq] at *
                       first | (exfalso; omega) | (rw [if_pos (by omega)]; done) | (rw [if_neg (by omega), if_pos (by omega)]; done) | (rw [if_neg (by omega), if_neg (by omega)]; done)
                     rw [e]
                     exact J.met () (.cons rfl (.cons rfl (.cons rfl (.cons rfl .nil)))) (fun w hw => hw))
                  | (have e : tRune c wd = c := by
                       unfold tRune
                       simp only [beq_iff_eq, beq_eq_false_iff_ne, decide_eq_true_eq, decide_eq_false_iff_not, ne_eq] at *
                       first | (exfalso; omega) | (rw [if_pos (by omega)]; done) | (rw [if_neg (by omega), if_pos (by omega)]; done) | (rw [if_neg (by omega), if_neg (by omega)]; done)
                     rw [e]
                     exact J.met () (.cons rfl (.cons rfl (.cons rfl (.cons rfl .nil)))) (fun w hw => hw))
    · intro _
      refine J.seq ?_
      refine J.seq ?_
      refine J.region ?_
      refine J.call can50 rfl (fun w hC => Builder.Len (hC.pullO v |>.pullP b3)) rfl rfl (fun v43 => ?_)
      refine J.andC fun hv43 => ?_
      subst hv43
      refine J.rd (Rd.move rfl) rfl rfl ?_
      refine J.call can69 rfl (fun w hC => Dec.runeLen hC) rfl rfl (fun v45 => ?_)
      refine J.andC fun hv45 => ?_
      rw [runeLen_B hr1 hr2] at hv45
      subst hv45
      have hb4 := runeB_le (tRune c wd)
      refine J.rd (Rd.bin' rfl rfl rfl (fun _ => rfl)) rfl rfl ?_
      first | refine J.val (wI64 ⟨by omega, by omega⟩) ?_ | skip
      refine J.rd (Rd.bin' rfl rfl rfl (fun _ => rfl)) rfl rfl ?_
      refine J.done ?_
      refine J.thenN ?_
      refine J.cond rfl (fun hb12 => ?_) (fun hb12 => ?_)
      · skip
        refine J.exit ?_
        refine J.thenE ?_
        refine J.blockF rfl ?_
        refine J.thenE ?_
        refine J.blockE ?_
        refine J.thenN ?_
        refine J.seq ?_
        refine J.region ?_
        refine J.call can51 rfl (fun w hC => Builder.String (by omega) hq4 (hC.pullO v |>.pullP b3)) rfl rfl (fun v50 => ?_)
        refine J.andC fun hv50 => ?_
        subst hv50
        refine J.rd (Rd.assign rfl) rfl rfl ?_
        refine J.done ?_
        refine J.thenN ?_
        refine J.ret ?_
        refine J.leave1 (.inr rfl) rfl rfl (fun w' hC => ?_)
        refine ⟨?_, St.sub hC⟩
        rw [hq1.full (by omega) hdl (by simp at hb12; omega)]
      · skip
        refine J.skip ?_
        refine J.thenN ?_
        refine J.region ?_
        refine J.rd (Rd.move rfl) rfl rfl ?_
        refine J.call can70 rfl (fun w hC => Utf8.WriteRune hq2 hr1 hr2 (by omega) hC) rfl rfl (fun v49 => ?_)
        refine J.exC fun v' => ?_
        refine J.done ?_
        refine J.blockN ?_
        refine J.thenN ?_
        refine J.again (pos, out, A, v) (pos + wd, out ++ runeB (tRune c wd), .pointer (some ⟨b3, 0, none⟩), v') ?_ ?_ (fun w hw => ?_)
        · simp; omega
        · exact .cons rfl (.cons rfl (.cons rfl .nil))
        have hle : ¬ 60 < out.length + (runeB (tRune c wd)).length := by simp at hb12; omega
        refine ⟨⟨hq1.next (by omega) hdl hle, .inr rfl, by simp; omega, fun h => ?_⟩, ?_⟩
        · have := congrArg List.length h
          simp only [List.length_append, List.length_nil] at this
          have h2 := runeB_pos (tRune c wd)
          omega
        · show St Z w (pts b9 (.stringIter s (pos + wd)) :: pts b3 (.cells [.pointer (some ⟨b3, 0, none⟩), v'].toArray 105 (0, 0)) :: own 5 1 v' (out ++ runeB (tRune c wd)).length (bytesV (out ++ runeB (tRune c wd))) :: Lf)
          rw [List.length_append, bytesV_append]
          exact St.sub hw
  · refine J.nextF rfl hlt1 rfl rfl ?_
    refine J.rd (Rd.extractL rfl) rfl rfl ?_
    refine J.done ?_
    refine J.thenN ?_
    refine J.seq ?_
    refine J.condF rfl ?_
    refine J.exit ?_
    refine J.thenE ?_
    refine J.thenE ?_
    refine J.blockE ?_
    refine J.thenN ?_
    refine J.seq ?_
    refine J.region ?_
    refine J.call can51 rfl (fun w hC => Builder.String (by omega) hq4 (hC.pullO v |>.pullP b3)) rfl rfl (fun v50 => ?_)
    refine J.andC fun hv50 => ?_
    subst hv50
    refine J.rd (Rd.assign rfl) rfl rfl ?_
    refine J.done ?_
    refine J.thenN ?_
    refine J.ret ?_
    refine J.leave1 (.inr rfl) rfl rfl (fun w' hC => ?_)
    refine ⟨?_, St.sub hC⟩
    rw [hq1.over (by omega)]
end Go.Proofs.YtdpfdpmjnifanaaDoor.Title
