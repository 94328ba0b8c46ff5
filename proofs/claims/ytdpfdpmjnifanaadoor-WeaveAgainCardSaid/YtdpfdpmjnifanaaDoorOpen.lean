/- word.Open. -/
import Derived.Test.YtdpfdpmjnifanaaDoorProg
import Derived.KernelRfl
import Derived.Test.YtdpfdpmjnifanaaDoorIdxrune
import Derived.Test.YtdpfdpmjnifanaaDoorSealPure
import Derived.Test.YtdpfdpmjnifanaaDoorIface
import Derived.Test.YtdpfdpmjnifanaaDoorIntBits
import Derived.Test.YtdpfdpmjnifanaaDoorShelf
namespace Go.Proofs.YtdpfdpmjnifanaaDoor.Open
open Go Go.RowKit Go.Sb
set_option maxRecDepth 100000
set_option linter.unusedVariables false
set_option linter.unusedSimpArgs false
theorem mixed : Tryd.prog.follows .mixedOrders = true := by kernel_rfl
theorem ti5 : TI Tryd.prog 5 1 1 (.int .u8 0) := TI.of (by kernel_rfl)
theorem can52 : Callable Tryd.prog 52 := ⟨Tryd.f52, Tryd.func52, by kernel_rfl, by kernel_rfl⟩
theorem can53 : Callable Tryd.prog 53 := ⟨Tryd.f53, Tryd.func53, by kernel_rfl, by kernel_rfl⟩

theorem index_lets_all : ∀ n, n < 256 → Lib.indexByte lets (UInt8.ofNat n) = if idxL (UInt8.ofNat n) = 64 then -1 else (idxL (UInt8.ofNat n) : Int) := by decide +kernel
theorem index_lets (c : UInt8) : Lib.indexByte lets c = if idxL c = 64 then -1 else (idxL c : Int) := by
  have := index_lets_all c.toNat c.toNat_lt
  simpa using this
theorem idxL_big_all : ∀ n, n < 256 → 128 ≤ n → idxL (UInt8.ofNat n) = 64 := by decide +kernel
theorem idxL_big {c : UInt8} (h : 128 ≤ c.toNat) : idxL c = 64 := by
  have := idxL_big_all c.toNat c.toNat_lt h
  simpa using this
theorem lets_asc : ∀ c ∈ lets, c.toNat < 128 := by decide +kernel
/-- What the search says of a rune in a text: its first byte's number, if it is a letter. -/
theorem letIdx {Z w : World} {L : List HP} {body : ByteArray} {pos c wd : Nat} (h : pos < body.size) (hd : Utf8.decode body pos = (c, wd)) (hst : St Z w L) :
    Calls Tryd.prog 53 #[.string ⟨lets.toArray⟩, .int .i32 (c : Int)] w (Ret fun v w' => v = .int .i64 (if idxL (body.data.toList.getD pos 0) = 64 then -1 else (idxL (body.data.toList.getD pos 0) : Int)) ∧ St Z w' L) := by
  have hl : pos < body.data.toList.length := by simpa using h
  have hv := decodeL_valid (body.data.toList.drop pos)
  have hdl := Lib.decodeL_drop body pos
  rw [hdl, hd] at hv
  rw [hd] at hdl
  simp only at hv
  have hN := Lib.decodeL_N (body.data.toList.drop pos)
  have h0 : (body.data.toList.drop pos).getD 0 0 = body.data.toList.getD pos 0 := by simp [List.getD, List.getElem?_drop]
  rw [h0, hdl] at hN
  generalize hcb : body.data.toList.getD pos 0 = cb at hN
  by_cases hb : cb.toNat < 128
  · have hc : c = cb.toNat := by
      unfold Lib.decodeN at hN
      rw [if_pos hb] at hN
      exact (Prod.mk.inj hN).1
    subst hc
    have := Idxrune.IndexRune_asc (s := ⟨lets.toArray⟩) (r := (cb.toNat : Int)) (by omega) (by omega) hst
    have e : ((cb.toNat : Int).toNat.toUInt8) = cb := by simp
    rw [e] at this
    rw [← index_lets]
    exact this
  · have hc : 128 ≤ c := by
      have h1 := congrArg Prod.fst hN
      simp only at h1
      rw [h1]
      unfold Lib.decodeN
      rw [if_neg hb]
      repeat' split
      all_goals (simp only; omega)
    rw [idxL_big (by omega), if_pos rfl]
    exact Idxrune.IndexRune_far (s := ⟨lets.toArray⟩) (fun c hc => lets_asc c (by simpa using hc)) (by decide) hc (by omega) (by omega) hst
theorem width_letter {body : ByteArray} {pos c wd : Nat} (h : pos < body.size) (hd : Utf8.decode body pos = (c, wd)) (hi : idxL (body.data.toList.getD pos 0) ≠ 64) : wd = 1 := by
  have hl : pos < body.data.toList.length := by simpa using h
  have hdl := Lib.decodeL_drop body pos
  rw [hd] at hdl
  have hN := Lib.decodeL_N (body.data.toList.drop pos)
  have h0 : (body.data.toList.drop pos).getD 0 0 = body.data.toList.getD pos 0 := by simp [List.getD, List.getElem?_drop]
  rw [h0, hdl] at hN
  have hb : (body.data.toList.getD pos 0).toNat < 128 := by
    by_cases h' : (body.data.toList.getD pos 0).toNat < 128
    · exact h'
    · exact absurd (idxL_big (by omega)) hi
  unfold Lib.decodeN at hN
  rw [if_pos hb] at hN
  exact (Prod.mk.inj hN).2
theorem TrimRight {Z w : World} {L : List HP} {s : ByteArray} (c : UInt8) (hc : c.toNat < 128) (hs : s.size ≤ 9223372036854775807) (hst : St Z w L) : Calls Tryd.prog 52 #[.string s, .string ⟨#[c]⟩] w (Ret fun v w' => v = .string ⟨(Lib.trimRightB s.data.toList c).toArray⟩ ∧ St Z w' L) :=
  (Tryd.strings_TrimRight_one s c hc w hs).mono fun e w' ⟨h1, h2⟩ => ⟨_, h1, rfl, h2 ▸ hst⟩
theorem opRun_ok : ∀ (l : List UInt8) (o : List UInt8) (b n : Nat), opRun l = some (o, b, n) → (n = 0 ∨ n = 2 ∨ n = 4 ∨ n = 6) ∧ b < 2 ^ n ∧ o.length ≤ l.length := by
  refine snoc_ind ?_ (fun l c ih => ?_)
  · intro o b n h
    simp [opRun] at h
    obtain ⟨rfl, rfl, rfl⟩ := h
    exact ⟨.inl rfl, by decide, by simp⟩
  · intro o b n h
    have e : opRun (l ++ [c]) = opStep (opRun l) c := by simp [opRun]
    rw [e] at h
    cases hr : opRun l with
    | none => rw [hr] at h; cases h
    | some s =>
      obtain ⟨o1, b1, n1⟩ := s
      rw [hr] at h
      obtain ⟨h1, h2, h3⟩ := ih o1 b1 n1 hr
      have hc : idxL c < 64 := by
        by_cases hc : idxL c = 64
        · simp [opStep, hc] at h
        · have := idxL_le c; omega
      rcases h1 with rfl | rfl | rfl | rfl
      · have : b1 = 0 := by simpa using h2
        subst this
        rw [op0 hc] at h
        simp only [Option.some.injEq, Prod.mk.injEq] at h
        obtain ⟨rfl, rfl, rfl⟩ := h
        exact ⟨by simp, by simpa using hc, by simp; omega⟩
      · rw [op2 hc] at h
        simp only [Option.some.injEq, Prod.mk.injEq] at h
        obtain ⟨rfl, rfl, rfl⟩ := h
        exact ⟨by simp, by decide, by simp; omega⟩
      · rw [op4 hc] at h
        simp only [Option.some.injEq, Prod.mk.injEq] at h
        obtain ⟨rfl, rfl, rfl⟩ := h
        exact ⟨by simp, by omega, by simp; omega⟩
      · rw [op6 hc] at h
        simp only [Option.some.injEq, Prod.mk.injEq] at h
        obtain ⟨rfl, rfl, rfl⟩ := h
        exact ⟨by simp, by omega, by simp; omega⟩
theorem opRun_take {l : List UInt8} {k : Nat} {c : UInt8} (h : l[k]? = some c) : opRun (l.take (k + 1)) = opStep (opRun (l.take k)) c := by
  rw [take_succ_of h]; simp [opRun]
theorem trimEq_eq (l : List UInt8) : Lib.trimRightB l 61 = trimEq l := rfl

theorem Open_calls {Z w : World} {Lf : List HP} (s : ByteArray) (hs : s.size ≤ 1000000) (hst : St Z w Lf) : Calls Tryd.prog 18 #[.string s] w (Ret fun r w' => ∃ v, r = .tuple #[v, .int .i64 (if (openF s.data.toList).isSome then 0 else 3)] ∧ St Z w' (own 5 1 v ((openF s.data.toList).getD []).length (bytesV ((openF s.data.toList).getD [])) :: Lf)) := by
  refine J.enter (N := 65) (l := [.string s]) (C := Sto Z Lf) Tryd.func18 rfl Tryd.ntmps18 (by simp) (hst) ?_
  have hsl : s.data.toList.length = s.size := by simp
  have htl : (trimEq s.data.toList).length ≤ s.data.toList.length := by
    have := congrArg List.length (trimEq_split s.data.toList)
    simp only [List.length_append] at this
    omega
  refine J.seq ?_
  refine J.region ?_
  refine J.rd (Rd.assign rfl) rfl rfl ?_
  refine J.rd (Rd.assign rfl) rfl rfl ?_
  refine J.done ?_
  refine J.thenN ?_
  refine J.seq ?_
  refine J.region ?_
  refine J.rd (Rd.move rfl) rfl rfl ?_
  refine J.call can52 rfl (fun w hC => TrimRight 61 (by decide) (by omega) hC) rfl rfl (fun v12 => ?_)
  refine J.andC fun hv12 => ?_
  subst hv12
  rw [trimEq_eq]
  generalize hbd : ({ data := (trimEq s.data.toList).toArray } : ByteArray) = body
  have hbl : body.data.toList = trimEq s.data.toList := by rw [← hbd]
  have hbs : body.size = (trimEq s.data.toList).length := by rw [← hbd]; exact bsize _
  refine J.rd (Rd.assign rfl) rfl rfl ?_
  refine J.done ?_
  refine J.thenN ?_
  refine J.seq ?_
  refine J.seq ?_
  refine J.region ?_
  refine J.rd (Rd.move rfl) rfl rfl ?_
  refine J.rd (Rd.lenStr rfl rfl Tryd.underlying9) rfl rfl ?_
  refine J.rd (Rd.rem rfl rfl (by first | decide | omega)) rfl rfl ?_
  first | refine J.val (wR (by omega) _) ?_ | skip
  refine J.rd (Rd.bin' rfl rfl rfl (fun _ => rfl)) rfl rfl ?_
  refine J.rd (Rd.move rfl) rfl rfl ?_
  refine J.bcase (fun hb1 => ?_) (fun hb1 => ?_)
  · skip
    refine J.pass rfl rfl ?_
    refine J.pass rfl rfl ?_
    refine J.pass rfl rfl ?_
    refine J.pass rfl rfl ?_
    refine J.pass rfl rfl ?_
    refine J.pass rfl rfl ?_
    refine J.rd (Rd.pickT rfl rfl) rfl rfl ?_
    refine J.rd (Rd.move rfl) rfl rfl ?_
    refine J.pass rfl rfl ?_
    refine J.pass rfl rfl ?_
    refine J.pass rfl rfl ?_
    refine J.pass rfl rfl ?_
    refine J.rd (Rd.pickT rfl rfl) rfl rfl ?_
    refine J.done ?_
    refine J.thenN ?_
    refine J.condT rfl ?_
    refine J.seq ?_
    refine J.region ?_
    refine J.rd (Rd.assign rfl) rfl rfl ?_
    refine J.rd (Rd.assign rfl) rfl rfl ?_
    refine J.done ?_
    refine J.thenN ?_
    refine J.ret ?_
    refine J.thenR ?_
    refine J.leave2 (.inr rfl) rfl rfl rfl (fun w' hC => ?_)
    have hno : openF s.data.toList = none := by
      unfold openF
      rw [if_pos (by simp only [ne_eq, bne_iff_ne, beq_iff_eq, decide_eq_true_eq, bne_eq_false_iff_eq, beq_eq_false_iff_ne, decide_eq_false_iff_not] at *; omega)]
    refine ⟨.slice none 0 0, ?_, ?_⟩
    · rw [hno]; rfl
    · rw [hno]
      exact St.ownNil 5 1 (St.sub hC)
  · skip
    refine J.rd (Rd.move rfl) rfl rfl ?_
    refine J.rd (Rd.lenStr rfl rfl Tryd.underlying9) rfl rfl ?_
    refine J.rd (Rd.move rfl) rfl rfl ?_
    refine J.rd (Rd.lenStr rfl rfl Tryd.underlying9) rfl rfl ?_
    refine J.rd (Rd.bin' rfl rfl rfl (fun _ => rfl)) rfl rfl ?_
    first | refine J.val (wI64 ⟨by omega, by omega⟩) ?_ | skip
    refine J.rd (Rd.bin' rfl rfl rfl (fun _ => rfl)) rfl rfl ?_
    refine J.rd (Rd.pickF rfl rfl) rfl rfl ?_
    refine J.rd (Rd.move rfl) rfl rfl ?_
    refine J.bcase (fun hb2 => ?_) (fun hb2 => ?_)
    · skip
      refine J.pass rfl rfl ?_
      refine J.pass rfl rfl ?_
      refine J.pass rfl rfl ?_
      refine J.pass rfl rfl ?_
      refine J.rd (Rd.pickT rfl rfl) rfl rfl ?_
      refine J.done ?_
      refine J.thenN ?_
      refine J.condT rfl ?_
      refine J.seq ?_
      refine J.region ?_
      refine J.rd (Rd.assign rfl) rfl rfl ?_
      refine J.rd (Rd.assign rfl) rfl rfl ?_
      refine J.done ?_
      refine J.thenN ?_
      refine J.ret ?_
      refine J.thenR ?_
      refine J.leave2 (.inr rfl) rfl rfl rfl (fun w' hC => ?_)
      have hno : openF s.data.toList = none := by
        unfold openF
        rw [if_pos (by simp only [ne_eq, bne_iff_ne, beq_iff_eq, decide_eq_true_eq, bne_eq_false_iff_eq, beq_eq_false_iff_ne, decide_eq_false_iff_not] at *; omega)]
      refine ⟨.slice none 0 0, ?_, ?_⟩
      · rw [hno]; rfl
      · rw [hno]
        exact St.ownNil 5 1 (St.sub hC)
    · skip
      refine J.rd (Rd.move rfl) rfl rfl ?_
      refine J.rd (Rd.lenStr rfl rfl Tryd.underlying9) rfl rfl ?_
      refine J.rd (Rd.rem rfl rfl (by first | decide | omega)) rfl rfl ?_
      first | refine J.val (wR (by omega) _) ?_ | skip
      refine J.rd (Rd.bin' rfl rfl rfl (fun _ => rfl)) rfl rfl ?_
      refine J.rd (Rd.pickF rfl rfl) rfl rfl ?_
      refine J.done ?_
      refine J.thenN ?_
      refine J.cond rfl (fun hb3 => ?_) (fun hb3 => ?_)
      · skip
        refine J.seq ?_
        refine J.region ?_
        refine J.rd (Rd.assign rfl) rfl rfl ?_
        refine J.rd (Rd.assign rfl) rfl rfl ?_
        refine J.done ?_
        refine J.thenN ?_
        refine J.ret ?_
        refine J.thenR ?_
        refine J.leave2 (.inr rfl) rfl rfl rfl (fun w' hC => ?_)
        have hno : openF s.data.toList = none := by
          unfold openF
          rw [if_pos (by simp only [ne_eq, bne_iff_ne, beq_iff_eq, decide_eq_true_eq, bne_eq_false_iff_eq, beq_eq_false_iff_ne, decide_eq_false_iff_not] at *; omega)]
        refine ⟨.slice none 0 0, ?_, ?_⟩
        · rw [hno]; rfl
        · rw [hno]
          exact St.ownNil 5 1 (St.sub hC)
      · skip
        refine J.skip ?_
        refine J.thenN ?_
        refine J.seq ?_
        refine J.region ?_
        refine J.rd (Rd.assign rfl) rfl rfl ?_
        refine J.done ?_
        refine J.thenN ?_
        refine J.seq ?_
        refine J.region ?_
        refine J.rd (Rd.assign rfl) rfl rfl ?_
        refine J.rd (Rd.assign rfl) rfl rfl ?_
        refine J.done ?_
        refine J.thenN ?_
        refine J.seq ?_
        refine J.seq ?_
        refine J.region ?_
        refine J.rd (Rd.move rfl) rfl rfl ?_
        refine J.rangeStr Tryd.underlying9 rfl rfl rfl (fun b32 => ?_)
        refine J.done ?_
        refine J.thenN ?_
        refine J.block ?_
        refine J.loop (σ := Nat × (List UInt8 × Nat × Nat) × Value) (fun q => body.size - q.1) (fun q => [(0, .string s), (4, .string body), (5, q.2.2), (32, .pointer (some ⟨b32, 0, none⟩)), (6, .int .i64 (q.2.1.2.1 : Nat)), (7, .int .i64 (q.2.1.2.2 : Nat))])
          (fun q w => (q.1 ≤ body.size ∧ opRun (body.data.toList.take q.1) = some q.2.1) ∧ St Z w (pts b32 (.stringIter body q.1) :: own 5 1 q.2.2 q.2.1.1.length (bytesV q.2.1.1) :: Lf))
          (0, ([], 0, 0), .slice none 0 0) (.cons rfl (.cons rfl (.cons rfl (.cons rfl (.cons rfl (.cons rfl .nil)))))) (fun w hw => ⟨⟨Nat.zero_le _, rfl⟩, by
            show St Z w (pts b32 (.stringIter body 0) :: own 5 1 (.slice none 0 0) 0 [] :: Lf)
            exact St.sub (St.ownNil 5 1 hw)⟩) ?_
        rintro ⟨pos, ⟨o, b, n⟩, v⟩
        refine J.andC fun hq => ?_
        obtain ⟨hq1, hq2⟩ := hq
        simp only at hq1 hq2
        simp only
        obtain ⟨hn, hbn, hol⟩ := opRun_ok _ _ _ _ hq2
        have hb64 : b < 64 := by rcases hn with rfl | rfl | rfl | rfl <;> simp at hbn <;> omega
        have hol2 : o.length ≤ 1000000 := by have := List.length_take_le pos body.data.toList; simp only [List.length_take] at hol; omega
        refine J.seq ?_
        refine J.region ?_
        by_cases hlt4 : pos < body.size
        · refine J.nextT rfl hlt4 rfl rfl ?_
          obtain ⟨c, wd, hdec⟩ : ∃ c wd, Utf8.decode body pos = (c, wd) := ⟨_, _, rfl⟩
          simp only [hdec]
          have hget : body.data.toList[pos]? = some (body.data.toList.getD pos 0) := by
            have hl : pos < body.data.toList.length := by simpa using hlt4
            rw [List.getD_eq_getElem?_getD, List.getElem?_eq_getElem hl]; rfl
          have hmem := List.mem_of_getElem? hget
          have hwl := width_letter hlt4 hdec
          generalize hcb : body.data.toList.getD pos 0 = cb at hget hmem hwl
          refine J.rd (Rd.extractL rfl) rfl rfl ?_
          refine J.done ?_
          refine J.thenN ?_
          refine J.seq ?_
          refine J.condT rfl ?_
          refine J.skip ?_
          refine J.thenN ?_
          refine J.block ?_
          refine J.seq ?_
          refine J.region ?_
          refine J.rd (Rd.extractL rfl) rfl rfl ?_
          refine J.rd (Rd.assign rfl) rfl rfl ?_
          refine J.done ?_
          refine J.thenN ?_
          refine J.seq ?_
          refine J.region ?_
          refine J.rd (Rd.move rfl) rfl rfl ?_
          refine J.call can53 rfl (fun w hC => letIdx hlt4 hdec hC) rfl rfl (fun v37 => ?_)
          refine J.andC fun hv37 => ?_
          subst hv37
          simp only [hcb]
          refine J.rd (Rd.assign rfl) rfl rfl ?_
          refine J.done ?_
          refine J.thenN ?_
          refine J.seq ?_
          refine J.seq ?_
          refine J.region ?_
          refine J.rd (Rd.move rfl) rfl rfl ?_
          refine J.rd (Rd.bin' rfl rfl rfl (fun _ => rfl)) rfl rfl ?_
          refine J.done ?_
          refine J.thenN ?_
          refine J.cond rfl (fun hb5 => ?_) (fun hb5 => ?_)
          · skip
            refine J.seq ?_
            refine J.region ?_
            refine J.rd (Rd.assign rfl) rfl rfl ?_
            refine J.rd (Rd.assign rfl) rfl rfl ?_
            refine J.done ?_
            refine J.thenN ?_
            refine J.ret ?_
            refine J.thenR ?_
            refine J.blockR ?_
            refine J.thenR ?_
            refine J.blockR ?_
            refine J.thenR ?_
            refine J.leave2 (.inr rfl) rfl rfl rfl (fun w' hC => ?_)
            have hc64 : idxL cb = 64 := by
              by_cases h : idxL cb = 64
              · exact h
              · rw [if_neg h] at hb5; simp at hb5; omega
            have hno : openF s.data.toList = none := by
              unfold openF
              rw [if_neg (by simp only [ne_eq, bne_eq_false_iff_eq, beq_eq_false_iff_ne, decide_eq_false_iff_not] at *; omega), ← hbl, opRun_bad hmem hc64]
            refine ⟨.slice none 0 0, ?_, ?_⟩
            · rw [hno]; rfl
            · rw [hno]
              exact St.ownNil 5 1 (St.sub hC)
          · skip
            refine J.skip ?_
            refine J.thenN ?_
            refine J.seq ?_
            have hi64 : idxL cb < 64 := by
              have h1 := idxL_le cb
              by_cases h : idxL cb = 64
              · rw [if_pos h] at hb5; simp at hb5
              · omega
            simp only [if_neg (show ¬ idxL cb = 64 by omega)]
            obtain rfl := hwl (by omega)
            generalize hix : idxL cb = i at hi64
            refine J.region ?_
            refine J.rd (Rd.move rfl) rfl rfl ?_
            refine J.rd (Rd.shl (n := 6) rfl rfl (by first | rfl | omega) (by first | decide | omega | (show _ ≤ 64; omega) | (show _ ≤ 32; omega))) rfl rfl ?_
            first | refine J.val (wI64 ⟨by omega, by omega⟩) ?_ | skip
            refine J.val (show _ = Value.int .i64 ((b * 2 ^ 6 : Nat) : Int) from congrArg (Value.int .i64) (by first | (norm_cast; done) | exact i64_shl (by omega))) ?_
            refine J.rd (Rd.move rfl) rfl rfl ?_
            refine J.rd (Rd.bit rfl rfl rfl) rfl rfl ?_
            refine J.val (show _ = Value.int .i64 ((b * 64 + i : Nat) : Int) from congrArg (Value.int .i64) (i64_or_low b i 6 hi64 (by omega))) ?_
            refine J.rd (Rd.move rfl) rfl rfl ?_
            refine J.rd (Rd.bin' rfl rfl rfl (fun _ => rfl)) rfl rfl ?_
            first | refine J.val (wI64 ⟨by omega, by omega⟩) ?_ | skip
            refine J.val (show _ = Value.int .i64 ((n + 6 : Nat) : Int) from congrArg (Value.int .i64) (by omega)) ?_
            refine J.rd (Rd.assign rfl) rfl rfl ?_
            refine J.rd (Rd.assign rfl) rfl rfl ?_
            refine J.done ?_
            refine J.thenN ?_
            refine J.seq ?_
            refine J.region ?_
            refine J.rd (Rd.move rfl) rfl rfl ?_
            refine J.rd (Rd.bin' rfl rfl rfl (fun _ => rfl)) rfl rfl ?_
            refine J.done ?_
            refine J.thenN ?_
            refine J.cond rfl (fun hb6 => ?_) (fun hb6 => ?_)
            · skip
              refine J.seq ?_
              refine J.region ?_
              refine J.rd (Rd.move rfl) rfl rfl ?_
              refine J.rd (Rd.bin' rfl rfl rfl (fun _ => rfl)) rfl rfl ?_
              first | refine J.val (wI64 ⟨by omega, by omega⟩) ?_ | skip
              refine J.val (show _ = Value.int .i64 ((n + 6 - 8 : Nat) : Int) from congrArg (Value.int .i64) (by simp at hb6; omega)) ?_
              refine J.rd (Rd.assign rfl) rfl rfl ?_
              refine J.done ?_
              refine J.thenN ?_
              refine J.seq ?_
              have hxl : (b * 64 + i) / 2 ^ (n + 6 - 8) < 256 := by
                refine Nat.div_lt_of_lt_mul ?_
                have h8 : 8 ≤ n + 6 := by simp at hb6; omega
                rcases hn with rfl | rfl | rfl | rfl <;> simp at hbn h8 ⊢ <;> omega
              refine J.region ?_
              refine J.rd (Rd.move rfl) rfl rfl ?_
              refine J.rd (Rd.move rfl) rfl rfl ?_
              refine J.rd (Rd.move rfl) rfl rfl ?_
              refine J.rd (Rd.shr (n := n + 6 - 8) rfl rfl (by first | rfl | omega) (by first | decide | omega | (show _ ≤ 64; omega) | (show _ ≤ 32; omega))) rfl rfl ?_
              refine J.val (show _ = Value.int .i64 (((b * 64 + i) / 2 ^ (n + 6 - 8) : Nat) : Int) from congrArg (Value.int .i64) int_shr) ?_
              refine J.rd (Rd.convI rfl Tryd.underlying3 Tryd.underlying5) rfl rfl ?_
              first | refine J.val (wU8 ⟨by omega, by omega⟩) ?_ | skip
              refine J.val (show _ = Value.int .u8 (((UInt8.ofNat ((b * 64 + i) / 2 ^ (n + 6 - 8))).toNat : Nat) : Int) from congrArg (Value.int .u8) (by rw [ofN _ hxl]; generalize (b * 64 + i) / 2 ^ (n + 6 - 8) = x at hxl; first | rfl | exact IntWalk.u8_in _ (by omega))) ?_
              refine J.lit1 ti5 Tryd.underlying27 rfl rfl rfl rfl rfl (fun b55 => ?_)
              refine J.app1 ti5 Tryd.underlying27 rfl rfl rfl (by omega) (by omega) rfl rfl rfl (fun b56 c56 => ?_)
              refine J.rd (Rd.assign rfl) rfl rfl ?_
              refine J.done ?_
              refine J.thenN ?_
              refine J.region ?_
              refine J.rd (Rd.move rfl) rfl rfl ?_
              refine J.rd (Rd.move rfl) rfl rfl ?_
              refine J.rd (Rd.shl (n := n + 6 - 8) rfl rfl (by first | rfl | omega) (by first | decide | omega | (show _ ≤ 64; omega) | (show _ ≤ 32; omega))) rfl rfl ?_
              first | refine J.val (wI64 ⟨by omega, by omega⟩) ?_ | skip
              refine J.rd (Rd.bin' rfl rfl rfl (fun _ => rfl)) rfl rfl ?_
              first | refine J.val (wI64 ⟨by omega, by omega⟩) ?_ | skip
              refine J.val (show _ = Value.int .i64 ((2 ^ (n + 6 - 8) - 1 : Nat) : Int) from congrArg (Value.int .i64) (mask_val (by omega))) ?_
              refine J.rd (Rd.bit rfl rfl rfl) rfl rfl ?_
              refine J.val (show _ = Value.int .i64 (((b * 64 + i) % 2 ^ (n + 6 - 8) : Nat) : Int) from congrArg (Value.int .i64) (i64_and_mask (b * 64 + i) (n + 6 - 8) (by omega) (by omega))) ?_
              refine J.rd (Rd.assign rfl) rfl rfl ?_
              refine J.done ?_
              refine J.blockN ?_
              refine J.thenN ?_
              refine J.again (pos, (o, b, n), v) (pos + 1, (o ++ [UInt8.ofNat ((b * 64 + i) / 2 ^ (n + 6 - 8))], (b * 64 + i) % 2 ^ (n + 6 - 8), n + 6 - 8), .slice b56 (o.length + 1) c56) ?_ (.cons rfl (.cons rfl (.cons rfl (.cons rfl (.cons rfl (.cons rfl .nil)))))) (fun w hw => ⟨⟨by simp only; omega, ?_⟩, ?_⟩)
              · show body.size - (pos + 1) < body.size - pos; omega
              · simp only
                rw [opRun_take hget, hq2]
                simp only [opStep, hix]
                rw [if_neg (by omega), if_pos (by simp at hb6; omega)]
              · simpa [bytesV] using hw
            · skip
              refine J.skip ?_
              refine J.blockN ?_
              refine J.thenN ?_
              refine J.again (pos, (o, b, n), v) (pos + 1, (o, b * 64 + i, n + 6), v) ?_ (.cons rfl (.cons rfl (.cons rfl (.cons rfl (.cons rfl (.cons rfl .nil)))))) (fun w hw => ⟨⟨by simp only; omega, ?_⟩, hw⟩)
              · show body.size - (pos + 1) < body.size - pos; omega
              · simp only
                rw [opRun_take hget, hq2]
                simp only [opStep, hix]
                rw [if_neg (by omega), if_neg (by simp at hb6; omega)]
        · refine J.nextF rfl hlt4 rfl rfl ?_
          refine J.rd (Rd.extractL rfl) rfl rfl ?_
          refine J.done ?_
          refine J.thenN ?_
          refine J.seq ?_
          refine J.condF rfl ?_
          refine J.exit ?_
          refine J.thenE ?_
          refine J.thenE ?_
          refine J.blockE ?_
          refine J.thenN ?_
          refine J.seq ?_
          refine J.seq ?_
          refine J.region ?_
          refine J.rd (Rd.move rfl) rfl rfl ?_
          refine J.rd (Rd.bin' rfl rfl rfl (fun _ => rfl)) rfl rfl ?_
          refine J.done ?_
          refine J.thenN ?_
          refine J.cond rfl (fun hb7 => ?_) (fun hb7 => ?_)
          · skip
            refine J.seq ?_
            refine J.region ?_
            refine J.rd (Rd.assign rfl) rfl rfl ?_
            refine J.rd (Rd.assign rfl) rfl rfl ?_
            refine J.done ?_
            refine J.thenN ?_
            refine J.ret ?_
            refine J.thenR ?_
            refine J.leave2 (.inr rfl) rfl rfl rfl (fun w' hC => ?_)
            have hbsz : body.data.toList.length = body.size := by simp
            have hall : body.data.toList.take pos = body.data.toList := List.take_of_length_le (by omega)
            rw [hall] at hq2
            have hno : openF s.data.toList = none := by
              unfold openF
              rw [if_neg (by simp only [ne_eq, bne_eq_false_iff_eq, beq_eq_false_iff_ne, decide_eq_false_iff_not] at *; omega), ← hbl, hq2]
              simp only
              rw [if_neg (by simpa using hb7)]
            refine ⟨.slice none 0 0, ?_, ?_⟩
            · rw [hno]; rfl
            · rw [hno]
              exact St.ownNil 5 1 (St.sub hC)
          · skip
            refine J.skip ?_
            refine J.thenN ?_
            refine J.seq ?_
            refine J.region ?_
            refine J.rd (Rd.move rfl) rfl rfl ?_
            refine J.rd (Rd.assign rfl) rfl rfl ?_
            refine J.rd (Rd.assign rfl) rfl rfl ?_
            refine J.done ?_
            refine J.thenN ?_
            refine J.ret ?_
            refine J.leave2 (.inr rfl) rfl rfl rfl (fun w' hC => ?_)
            have hbsz : body.data.toList.length = body.size := by simp
            have hall : body.data.toList.take pos = body.data.toList := List.take_of_length_le (by omega)
            rw [hall] at hq2
            have hno : openF s.data.toList = some o := by
              unfold openF
              rw [if_neg (by simp only [ne_eq, bne_eq_false_iff_eq, beq_eq_false_iff_ne, decide_eq_false_iff_not] at *; omega), ← hbl, hq2]
              simp only
              rw [if_pos (by simpa using hb7)]
            refine ⟨v, ?_, ?_⟩
            · rw [hno]; rfl
            · rw [hno]
              show St Z w' (own 5 1 v o.length (bytesV o) :: Lf)
              exact St.sub hC
end Go.Proofs.YtdpfdpmjnifanaaDoor.Open
