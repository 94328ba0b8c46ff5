/- Bytes as texts of sixty-four letters, and back: on lists of bytes. -/
import Derived.Lib.TrimByte
namespace Go.Sb
set_option linter.unusedSimpArgs false
set_option linter.unusedVariables false
def lets : List UInt8 := [65, 66, 67, 68, 69, 70, 71, 72, 73, 74, 75, 76, 77, 78, 79, 80, 81, 82, 83, 84, 85, 86, 87, 88, 89, 90, 97, 98, 99, 100, 101, 102, 103, 104, 105, 106, 107, 108, 109, 110, 111, 112, 113, 114, 115, 116, 117, 118, 119, 120, 121, 122, 48, 49, 50, 51, 52, 53, 54, 55, 56, 57, 43, 47]
def letF (n : Nat) : UInt8 := lets.getD n 0
/-- Three bytes at a time. -/
def enc3 : List UInt8 → List UInt8
  | [] => []
  | [a] => [letF (a.toNat / 4), letF (a.toNat % 4 * 16), 61, 61]
  | [a, b] => [letF (a.toNat / 4), letF (a.toNat % 4 * 16 + b.toNat / 16), letF (b.toNat % 16 * 4), 61]
  | a :: b :: c :: r => letF (a.toNat / 4) :: letF (a.toNat % 4 * 16 + b.toNat / 16) :: letF (b.toNat % 16 * 4 + c.toNat / 64) :: letF (c.toNat % 64) :: enc3 r
/-- What stands in the bits that are held is given out, letter by letter. -/
def drainL (b m : Nat) (o : List UInt8) : List UInt8 × Nat × Nat :=
  if 12 ≤ m then (o ++ [letF (b / 2 ^ (m - 6)), letF (b % 2 ^ (m - 6) / 2 ^ (m - 12))], b % 2 ^ (m - 12), m - 12)
  else if 6 ≤ m then (o ++ [letF (b / 2 ^ (m - 6))], b % 2 ^ (m - 6), m - 6) else (o, b, m)
theorem drainL_step {b m : Nat} {o : List UInt8} (h6 : 6 ≤ m) (hm : m ≤ 13) : drainL (b % 2 ^ (m - 6)) (m - 6) (o ++ [letF (b / 2 ^ (m - 6))]) = drainL b m o := by
  have : m = 6 ∨ m = 7 ∨ m = 8 ∨ m = 9 ∨ m = 10 ∨ m = 11 ∨ m = 12 ∨ m = 13 := by omega
  rcases this with rfl | rfl | rfl | rfl | rfl | rfl | rfl | rfl <;> simp [drainL] <;> omega
theorem drainL_end {b m : Nat} {o : List UInt8} (h6 : ¬ 6 ≤ m) : drainL b m o = (o, b, m) := by
  rw [drainL, if_neg (by omega), if_neg h6]
def sealStep (s : List UInt8 × Nat × Nat) (c : UInt8) : List UInt8 × Nat × Nat := drainL (s.2.1 * 256 + c.toNat) (s.2.2 + 8) s.1
def sealRun (l : List UInt8) : List UInt8 × Nat × Nat := l.foldl sealStep ([], 0, 0)
theorem foldl_out (l : List UInt8) : ∀ (o : List UInt8) (b m : Nat), (l.foldl sealStep (o, b, m)).1 = o ++ (l.foldl sealStep ([], b, m)).1 ∧ (l.foldl sealStep (o, b, m)).2 = (l.foldl sealStep ([], b, m)).2 := by
  induction l with
  | nil => intro o b m; simp
  | cons c l ih =>
    intro o b m
    simp only [List.foldl_cons, sealStep]
    generalize b * 256 + c.toNat = x
    generalize m + 8 = y
    have h : ∀ o', drainL x y o' = (o' ++ (drainL x y []).1, (drainL x y []).2) := by
      intro o'; simp only [drainL]; split
      · simp
      · split <;> simp
    rw [h o]
    obtain ⟨h1, h2⟩ := ih (o ++ (drainL x y []).1) (drainL x y []).2.1 (drainL x y []).2.2
    obtain ⟨h3, h4⟩ := ih (drainL x y []).1 (drainL x y []).2.1 (drainL x y []).2.2
    constructor
    · rw [show ((o ++ (drainL x y []).1, (drainL x y []).2) : List UInt8 × Nat × Nat) = (o ++ (drainL x y []).1, (drainL x y []).2.1, (drainL x y []).2.2) from rfl, h1,
        show (drainL x y [] : List UInt8 × Nat × Nat) = ((drainL x y []).1, (drainL x y []).2.1, (drainL x y []).2.2) from rfl, h3]
      simp
    · rw [show ((o ++ (drainL x y []).1, (drainL x y []).2) : List UInt8 × Nat × Nat) = (o ++ (drainL x y []).1, (drainL x y []).2.1, (drainL x y []).2.2) from rfl, h2,
        show (drainL x y [] : List UInt8 × Nat × Nat) = ((drainL x y []).1, (drainL x y []).2.1, (drainL x y []).2.2) from rfl, h4]
def sealEnd (s : List UInt8 × Nat × Nat) : List UInt8 :=
  if s.2.2 = 0 then s.1 else if s.2.2 = 2 then s.1 ++ [letF (s.2.1 * 16), 61, 61] else s.1 ++ [letF (s.2.1 * 4), 61]
theorem sealEnd_out (p o : List UInt8) (b m : Nat) : sealEnd (p ++ o, b, m) = p ++ sealEnd (o, b, m) := by
  simp only [sealEnd]
  split
  · rfl
  · split <;> simp
theorem seal_is : ∀ l : List UInt8, sealEnd (sealRun l) = enc3 l
  | [] => rfl
  | [a] => by simp [sealRun, sealStep, drainL, sealEnd, enc3]
  | [a, b] => by
    have := a.toNat_lt; have := b.toNat_lt
    simp [sealRun, sealStep, drainL, sealEnd, enc3]
    constructor <;> congr 1 <;> omega
  | a :: b :: c :: r => by
    have := a.toNat_lt; have := b.toNat_lt; have := c.toNat_lt
    have ih := seal_is r
    have h3 : sealRun (a :: b :: c :: r) = r.foldl sealStep ([letF (a.toNat / 4), letF (a.toNat % 4 * 16 + b.toNat / 16), letF (b.toNat % 16 * 4 + c.toNat / 64), letF (c.toNat % 64)], 0, 0) := by
      simp only [sealRun, List.foldl_cons]
      congr 1
      simp [sealStep, drainL]
      refine ⟨⟨?_, ?_, ?_⟩, ?_⟩ <;> first | (congr 1; omega) | omega
    rw [h3, enc3, ← ih]
    obtain ⟨g1, g2⟩ := foldl_out r [letF (a.toNat / 4), letF (a.toNat % 4 * 16 + b.toNat / 16), letF (b.toNat % 16 * 4 + c.toNat / 64), letF (c.toNat % 64)] 0 0
    rw [show r.foldl sealStep ([letF (a.toNat / 4), letF (a.toNat % 4 * 16 + b.toNat / 16), letF (b.toNat % 16 * 4 + c.toNat / 64), letF (c.toNat % 64)], 0, 0) =
      ([letF (a.toNat / 4), letF (a.toNat % 4 * 16 + b.toNat / 16), letF (b.toNat % 16 * 4 + c.toNat / 64), letF (c.toNat % 64)] ++ (r.foldl sealStep ([], 0, 0)).1, (r.foldl sealStep ([], 0, 0)).2.1, (r.foldl sealStep ([], 0, 0)).2.2) from Prod.ext g1 g2, sealEnd_out]
    rfl
/-- The letter's number; 64: it is none. -/
def idxL (c : UInt8) : Nat := lets.idxOf c
theorem idxL_letF : ∀ n, n < 64 → idxL (letF n) = n := by decide +kernel
theorem letF_idxL_all : ∀ n, n < 256 → idxL (UInt8.ofNat n) < 64 → letF (idxL (UInt8.ofNat n)) = UInt8.ofNat n := by decide +kernel
theorem letF_idxL {c : UInt8} (h : idxL c < 64) : letF (idxL c) = c := by
  have := letF_idxL_all c.toNat c.toNat_lt (by simpa using h)
  simpa using this
theorem idxL_le (c : UInt8) : idxL c ≤ 64 := by
  have : lets.idxOf c ≤ lets.length := List.idxOf_le_length
  simpa [idxL, lets] using this
theorem letF_ne : ∀ n, n < 64 → letF n ≠ 61 := by decide +kernel
theorem letF_small : ∀ n, n < 64 → (letF n).toNat < 128 := by decide +kernel
/-- One letter more: what came out, the bits that are held, how many. -/
def opStep (s : Option (List UInt8 × Nat × Nat)) (c : UInt8) : Option (List UInt8 × Nat × Nat) :=
  match s with
  | none => none
  | some (o, b, n) => if idxL c = 64 then none else
    if 8 ≤ n + 6 then some (o ++ [UInt8.ofNat ((b * 64 + idxL c) / 2 ^ (n + 6 - 8))], (b * 64 + idxL c) % 2 ^ (n + 6 - 8), n + 6 - 8) else some (o, b * 64 + idxL c, n + 6)
def opRun (l : List UInt8) : Option (List UInt8 × Nat × Nat) := l.foldl opStep (some ([], 0, 0))
def trimEq (l : List UInt8) : List UInt8 := (l.reverse.dropWhile (· == 61)).reverse
def openF (s : List UInt8) : Option (List UInt8) :=
  if s.length % 4 ≠ 0 ∨ 2 < s.length - (trimEq s).length ∨ (trimEq s).length % 4 = 1 then none
  else match opRun (trimEq s) with
    | none => none
    | some (o, b, _) => if b = 0 then some o else none
theorem opStep_none (l : List UInt8) : l.foldl opStep none = none := by
  induction l with
  | nil => rfl
  | cons c l ih => simpa [opStep] using ih
theorem opRun_out (l : List UInt8) : ∀ (p o : List UInt8) (b n : Nat), l.foldl opStep (some (p ++ o, b, n)) = (l.foldl opStep (some (o, b, n))).map fun s => (p ++ s.1, s.2.1, s.2.2) := by
  induction l with
  | nil => intro p o b n; rfl
  | cons c l ih =>
    intro p o b n
    simp only [List.foldl_cons, opStep]
    split
    · rw [opStep_none]; rfl
    · split
      · rw [List.append_assoc]; exact ih _ _ _ _
      · exact ih _ _ _ _
theorem op0 {o : List UInt8} {c : UInt8} (h : idxL c < 64) : opStep (some (o, 0, 0)) c = some (o, idxL c, 6) := by
  simp [opStep, if_neg (show ¬ idxL c = 64 by omega)]
theorem op6 {o : List UInt8} {c : UInt8} {b : Nat} (h : idxL c < 64) : opStep (some (o, b, 6)) c = some (o ++ [UInt8.ofNat ((b * 64 + idxL c) / 16)], (b * 64 + idxL c) % 16, 4) := by
  simp only [opStep, if_neg (show ¬ idxL c = 64 by omega)]; rfl
theorem op4 {o : List UInt8} {c : UInt8} {b : Nat} (h : idxL c < 64) : opStep (some (o, b, 4)) c = some (o ++ [UInt8.ofNat ((b * 64 + idxL c) / 4)], (b * 64 + idxL c) % 4, 2) := by
  simp only [opStep, if_neg (show ¬ idxL c = 64 by omega)]; rfl
theorem op2 {o : List UInt8} {c : UInt8} {b : Nat} (h : idxL c < 64) : opStep (some (o, b, 2)) c = some (o ++ [UInt8.ofNat (b * 64 + idxL c)], 0, 0) := by
  simp only [opStep, if_neg (show ¬ idxL c = 64 by omega)]
  simp [Nat.mod_one]
theorem ofNat_eq {n : Nat} {c : UInt8} (h : n % 256 = c.toNat) : UInt8.ofNat n = c := by
  apply UInt8.toNat_inj.1; simpa using h
theorem ofNat_cg {n m : Nat} (h : n % 256 = m % 256) : UInt8.ofNat n = UInt8.ofNat m := by
  apply UInt8.toNat_inj.1; simpa using h
theorem toNat_ofNat8 {n : Nat} (h : n < 256) : (UInt8.ofNat n).toNat = n := by simp; omega
theorem opRun_quad {a b c d : UInt8} {r : List UInt8} (ha : idxL a < 64) (hb : idxL b < 64) (hc : idxL c < 64) (hd : idxL d < 64) :
    opRun (a :: b :: c :: d :: r) = (opRun r).map fun s => ([UInt8.ofNat (idxL a * 4 + idxL b / 16), UInt8.ofNat (idxL b % 16 * 16 + idxL c / 4), UInt8.ofNat (idxL c % 4 * 64 + idxL d)] ++ s.1, s.2.1, s.2.2) := by
  have h : opRun (a :: b :: c :: d :: r) = r.foldl opStep (some ([UInt8.ofNat (idxL a * 4 + idxL b / 16), UInt8.ofNat (idxL b % 16 * 16 + idxL c / 4), UInt8.ofNat (idxL c % 4 * 64 + idxL d)] ++ [], 0, 0)) := by
    simp only [opRun, List.foldl_cons]
    congr 1
    simp only [op0 ha, op6 hb, op4 hc, op2 hd, List.nil_append, List.append_nil, List.cons_append]
    rw [ofNat_cg (n := (idxL a * 64 + idxL b) / 16) (m := idxL a * 4 + idxL b / 16) (by omega), ofNat_cg (n := ((idxL a * 64 + idxL b) % 16 * 64 + idxL c) / 4) (m := idxL b % 16 * 16 + idxL c / 4) (by omega),
      ofNat_cg (n := ((idxL a * 64 + idxL b) % 16 * 64 + idxL c) % 4 * 64 + idxL d) (m := idxL c % 4 * 64 + idxL d) (by omega)]
  rw [h, opRun_out]
  rfl
theorem opRun_bad {l : List UInt8} {c : UInt8} (hc : c ∈ l) (h : idxL c = 64) : opRun l = none := by
  have key : ∀ (l : List UInt8) s, c ∈ l → l.foldl opStep s = none := by
    intro l
    induction l with
    | nil => intro s hc; cases hc
    | cons x l ih =>
      intro s hc
      rw [List.foldl_cons]
      rcases List.mem_cons.1 hc with rfl | hc
      · have : opStep s c = none := by cases s <;> simp [opStep, h]
        rw [this, opStep_none]
      · exact ih _ hc
  exact key l _ hc
theorem opRun_all {l : List UInt8} {s : List UInt8 × Nat × Nat} (h : opRun l = some s) : ∀ c ∈ l, idxL c < 64 := by
  intro c hc
  by_cases h' : idxL c = 64
  · rw [opRun_bad hc h'] at h; cases h
  · have := idxL_le c; omega
theorem trimEq_app {p : List UInt8} {c : UInt8} {l : List UInt8} (h : c ≠ 61) : trimEq (p ++ [c] ++ l) = p ++ [c] ++ trimEq l := by
  unfold trimEq
  have : ∀ q : List UInt8, ((q ++ (c :: p.reverse)).dropWhile (· == 61)) = q.dropWhile (· == 61) ++ (c :: p.reverse) := by
    intro q
    induction q with
    | nil => simp [List.dropWhile, h]
    | cons x q ih =>
      simp only [List.cons_append, List.dropWhile_cons]
      split
      · exact ih
      · rfl
  have e : (p ++ [c] ++ l).reverse = l.reverse ++ (c :: p.reverse) := by simp
  rw [e, this]
  simp
theorem trimEq_nil : trimEq [] = [] := rfl
/-- What is sealed is opened. -/
theorem enc3_len4 : ∀ b : List UInt8, (enc3 b).length % 4 = 0
  | [] => rfl
  | [_] => by simp [enc3]
  | [_, _] => by simp [enc3]
  | _ :: _ :: _ :: r => by have := enc3_len4 r; simp [enc3]; omega
theorem open_enc3 : ∀ b : List UInt8, (enc3 b).length - (trimEq (enc3 b)).length ≤ 2 ∧ (trimEq (enc3 b)).length % 4 ≠ 1 ∧ ∃ n, opRun (trimEq (enc3 b)) = some (b, 0, n)
  | [] => ⟨by decide, by decide, 0, rfl⟩
  | [a] => by
    have ha := a.toNat_lt
    have i1 : idxL (letF (a.toNat / 4)) = a.toNat / 4 := idxL_letF _ (by omega)
    have i2 : idxL (letF (a.toNat % 4 * 16)) = a.toNat % 4 * 16 := idxL_letF _ (by omega)
    have e : trimEq (enc3 [a]) = [letF (a.toNat / 4), letF (a.toNat % 4 * 16)] := by
      have := trimEq_app (p := [letF (a.toNat / 4)]) (c := letF (a.toNat % 4 * 16)) (l := [61, 61]) (letF_ne _ (by omega))
      simpa [enc3, trimEq] using this
    rw [e]
    refine ⟨by simp [enc3], by simp, 4, ?_⟩
    simp only [opRun, List.foldl_cons, List.foldl_nil]
    rw [op0 (by omega), op6 (by omega), i1, i2, ofNat_eq (c := a) (by omega), show (a.toNat / 4 * 64 + a.toNat % 4 * 16) % 16 = 0 by omega]; rfl
  | [a, b] => by
    have ha := a.toNat_lt
    have hb := b.toNat_lt
    have i1 : idxL (letF (a.toNat / 4)) = a.toNat / 4 := idxL_letF _ (by omega)
    have i2 : idxL (letF (a.toNat % 4 * 16 + b.toNat / 16)) = a.toNat % 4 * 16 + b.toNat / 16 := idxL_letF _ (by omega)
    have i3 : idxL (letF (b.toNat % 16 * 4)) = b.toNat % 16 * 4 := idxL_letF _ (by omega)
    have e : trimEq (enc3 [a, b]) = [letF (a.toNat / 4), letF (a.toNat % 4 * 16 + b.toNat / 16), letF (b.toNat % 16 * 4)] := by
      have := trimEq_app (p := [letF (a.toNat / 4), letF (a.toNat % 4 * 16 + b.toNat / 16)]) (c := letF (b.toNat % 16 * 4)) (l := [61]) (letF_ne _ (by omega))
      simpa [enc3, trimEq] using this
    rw [e]
    refine ⟨by simp [enc3], by simp, 2, ?_⟩
    simp only [opRun, List.foldl_cons, List.foldl_nil]
    rw [op0 (by omega), op6 (by omega), op4 (by omega), i1, i2, i3, ofNat_eq (c := a) (by omega), ofNat_eq (c := b) (by omega), show ((a.toNat / 4 * 64 + (a.toNat % 4 * 16 + b.toNat / 16)) % 16 * 64 + b.toNat % 16 * 4) % 4 = 0 by omega]; rfl
  | a :: b :: c :: r => by
    have ha := a.toNat_lt
    have hb := b.toNat_lt
    have hc := c.toNat_lt
    have i1 : idxL (letF (a.toNat / 4)) = a.toNat / 4 := idxL_letF _ (by omega)
    have i2 : idxL (letF (a.toNat % 4 * 16 + b.toNat / 16)) = a.toNat % 4 * 16 + b.toNat / 16 := idxL_letF _ (by omega)
    have i3 : idxL (letF (b.toNat % 16 * 4 + c.toNat / 64)) = b.toNat % 16 * 4 + c.toNat / 64 := idxL_letF _ (by omega)
    have i4 : idxL (letF (c.toNat % 64)) = c.toNat % 64 := idxL_letF _ (by omega)
    obtain ⟨g1, g2, n, g3⟩ := open_enc3 r
    have e : trimEq (enc3 (a :: b :: c :: r)) = letF (a.toNat / 4) :: letF (a.toNat % 4 * 16 + b.toNat / 16) :: letF (b.toNat % 16 * 4 + c.toNat / 64) :: letF (c.toNat % 64) :: trimEq (enc3 r) := by
      have := trimEq_app (p := [letF (a.toNat / 4), letF (a.toNat % 4 * 16 + b.toNat / 16), letF (b.toNat % 16 * 4 + c.toNat / 64)]) (c := letF (c.toNat % 64)) (l := enc3 r) (letF_ne _ (by omega))
      simpa [enc3] using this
    rw [e]
    refine ⟨by simp [enc3]; omega, by simp; omega, n, ?_⟩
    rw [opRun_quad (by omega) (by omega) (by omega) (by omega), g3, i1, i2, i3, i4]
    rw [ofNat_eq (c := a) (by omega), ofNat_eq (c := b) (by omega), ofNat_eq (c := c) (by omega)]; rfl
theorem openF_enc3 (b : List UInt8) : openF (enc3 b) = some b := by
  obtain ⟨h1, h2, n, h3⟩ := open_enc3 b
  have h4 := enc3_len4 b
  unfold openF
  rw [if_neg (by omega), h3]
  rfl
/-- What is opened was sealed. -/
theorem enc3_op : ∀ (body : List UInt8) (k : Nat) (o : List UInt8) (n : Nat), k ≤ 2 → (body.length + k) % 4 = 0 → opRun body = some (o, 0, n) → enc3 o = body ++ List.replicate k 61
  | [], k, o, n, hk, hl, h => by
    have : k = 0 := by simp at hl; omega
    subst this
    simp [opRun] at h
    rw [h.1]; rfl
  | [a], k, o, n, hk, hl, h => by simp at hl; omega
  | [a, b], k, o, n, hk, hl, h => by
    have : k = 2 := by simp at hl; omega
    subst this
    have ha := opRun_all h a (by simp)
    have hb := opRun_all h b (by simp)
    simp only [opRun, List.foldl_cons, List.foldl_nil, op0 ha, op6 hb, List.nil_append, Option.some.injEq, Prod.mk.injEq] at h
    obtain ⟨rfl, h2, _⟩ := h
    have h4 : (UInt8.ofNat ((idxL a * 64 + idxL b) / 16)).toNat = (idxL a * 64 + idxL b) / 16 := toNat_ofNat8 (by omega)
    simp only [enc3, h4]
    have e1 : (idxL a * 64 + idxL b) / 16 / 4 = idxL a := by omega
    have e2 : (idxL a * 64 + idxL b) / 16 % 4 * 16 = idxL b := by omega
    rw [e1, e2, letF_idxL ha, letF_idxL hb]; rfl
  | [a, b, c], k, o, n, hk, hl, h => by
    have : k = 1 := by simp at hl; omega
    subst this
    have ha := opRun_all h a (by simp)
    have hb := opRun_all h b (by simp)
    have hc := opRun_all h c (by simp)
    simp only [opRun, List.foldl_cons, List.foldl_nil, op0 ha, op6 hb, op4 hc, List.nil_append, List.cons_append, Option.some.injEq, Prod.mk.injEq] at h
    obtain ⟨rfl, h2, _⟩ := h
    have h4 : (UInt8.ofNat ((idxL a * 64 + idxL b) / 16)).toNat = (idxL a * 64 + idxL b) / 16 := toNat_ofNat8 (by omega)
    have h5 : (UInt8.ofNat (((idxL a * 64 + idxL b) % 16 * 64 + idxL c) / 4)).toNat = ((idxL a * 64 + idxL b) % 16 * 64 + idxL c) / 4 := toNat_ofNat8 (by omega)
    simp only [enc3, h4, h5]
    have e1 : (idxL a * 64 + idxL b) / 16 / 4 = idxL a := by omega
    have e2 : (idxL a * 64 + idxL b) / 16 % 4 * 16 + ((idxL a * 64 + idxL b) % 16 * 64 + idxL c) / 4 / 16 = idxL b := by omega
    have e3 : ((idxL a * 64 + idxL b) % 16 * 64 + idxL c) / 4 % 16 * 4 = idxL c := by omega
    rw [e1, e2, e3, letF_idxL ha, letF_idxL hb, letF_idxL hc]; rfl
  | a :: b :: c :: d :: r, k, o, n, hk, hl, h => by
    have ha := opRun_all h a (by simp)
    have hb := opRun_all h b (by simp)
    have hc := opRun_all h c (by simp)
    have hd := opRun_all h d (by simp)
    rw [opRun_quad ha hb hc hd] at h
    cases hr : opRun r with
    | none => rw [hr] at h; cases h
    | some s =>
      rw [hr] at h
      obtain ⟨o', b', n'⟩ := s
      simp only [Option.map_some, Option.some.injEq, Prod.mk.injEq] at h
      obtain ⟨rfl, rfl, rfl⟩ := h
      have ih := enc3_op r k o' n' hk (by simp at hl; omega) hr
      have h4 : (UInt8.ofNat (idxL a * 4 + idxL b / 16)).toNat = idxL a * 4 + idxL b / 16 := toNat_ofNat8 (by omega)
      have h5 : (UInt8.ofNat (idxL b % 16 * 16 + idxL c / 4)).toNat = idxL b % 16 * 16 + idxL c / 4 := toNat_ofNat8 (by omega)
      have h6 : (UInt8.ofNat (idxL c % 4 * 64 + idxL d)).toNat = idxL c % 4 * 64 + idxL d := toNat_ofNat8 (by omega)
      simp only [List.cons_append, List.nil_append, enc3, h4, h5, h6, ih]
      have e1 : (idxL a * 4 + idxL b / 16) / 4 = idxL a := by omega
      have e2 : (idxL a * 4 + idxL b / 16) % 4 * 16 + (idxL b % 16 * 16 + idxL c / 4) / 16 = idxL b := by omega
      have e3 : (idxL b % 16 * 16 + idxL c / 4) % 16 * 4 + (idxL c % 4 * 64 + idxL d) / 64 = idxL c := by omega
      have e4 : (idxL c % 4 * 64 + idxL d) % 64 = idxL d := by omega
      rw [e1, e2, e3, e4, letF_idxL ha, letF_idxL hb, letF_idxL hc, letF_idxL hd]
theorem trimEq_split (s : List UInt8) : s = trimEq s ++ List.replicate (s.length - (trimEq s).length) 61 := by
  have key : ∀ l : List UInt8, l = List.replicate (l.length - (l.dropWhile (· == 61)).length) 61 ++ l.dropWhile (· == 61) := by
    intro l
    induction l with
    | nil => rfl
    | cons x l ih =>
      rw [List.dropWhile_cons]
      split
      · rename_i hx
        have hle : (l.dropWhile (· == 61)).length ≤ l.length := (List.dropWhile_suffix _).length_le
        have hx' : x = 61 := by simpa using hx
        rw [List.length_cons, Nat.succ_sub hle, List.replicate_succ, List.cons_append, ← ih, hx']
      · simp
  have h := key s.reverse
  have h2 := congrArg List.reverse h
  rw [List.reverse_reverse, List.reverse_append, List.reverse_replicate] at h2
  unfold trimEq
  rw [List.length_reverse]
  rw [List.length_reverse] at h2
  exact h2
theorem enc3_openF {s o : List UInt8} (h : openF s = some o) : enc3 o = s := by
  unfold openF at h
  split at h
  · cases h
  · rename_i hg
    have hs := trimEq_split s
    have hl : s.length = (trimEq s).length + (s.length - (trimEq s).length) := by
      have := congrArg List.length hs
      simpa using this
    cases hr : opRun (trimEq s) with
    | none => rw [hr] at h; cases h
    | some q =>
      rw [hr] at h
      obtain ⟨o', b', n'⟩ := q
      simp only at h
      split at h
      · rename_i hb
        subst hb
        cases h
        rw [enc3_op _ (s.length - (trimEq s).length) _ _ (by omega) (by omega) hr, ← hs]
      · cases h
/-! ### The document's way back -/
/-- A letter's number; 0: it is none. -/
def idx0 (c : UInt8) : Nat := if idxL c = 64 then 0 else idxL c
/-- How many bytes four letters bring. -/
def leftOf (c d : UInt8) : Nat := if idxL c = 64 ∧ c = 61 then 1 else if idxL d = 64 ∧ d = 61 then 2 else 3
def refBytes (a b c d : UInt8) : List UInt8 :=
  let n := idx0 a * 262144 + idx0 b * 4096 + idx0 c * 64 + idx0 d
  [UInt8.ofNat (n / 65536), UInt8.ofNat (n / 256 % 256), UInt8.ofNat (n % 256)].take (leftOf c d)
def refDec : List UInt8 → List UInt8
  | a :: b :: c :: d :: r => refBytes a b c d ++ refDec r
  | _ => []
theorem refDec_enc3 : ∀ b : List UInt8, refDec (enc3 b) = b
  | [] => rfl
  | [a] => by
    have ha := a.toNat_lt
    have i1 : idxL (letF (a.toNat / 4)) = a.toNat / 4 := idxL_letF _ (by omega)
    have i2 : idxL (letF (a.toNat % 4 * 16)) = a.toNat % 4 * 16 := idxL_letF _ (by omega)
    have i3 : idxL 61 = 64 := by decide
    have hlf : leftOf 61 61 = 1 := by decide
    simp only [enc3, refDec, refBytes, hlf, idx0, i1, i2, i3, if_neg (show ¬ a.toNat / 4 = 64 by omega), if_neg (show ¬ a.toNat % 4 * 16 = 64 by omega), if_true, List.append_nil, List.take_succ_cons, List.take_zero]
    rw [ofNat_eq (c := a) (by omega)]
  | [a, b] => by
    have ha := a.toNat_lt
    have hb := b.toNat_lt
    have i1 : idxL (letF (a.toNat / 4)) = a.toNat / 4 := idxL_letF _ (by omega)
    have i2 : idxL (letF (a.toNat % 4 * 16 + b.toNat / 16)) = a.toNat % 4 * 16 + b.toNat / 16 := idxL_letF _ (by omega)
    have i4 : idxL (letF (b.toNat % 16 * 4)) = b.toNat % 16 * 4 := idxL_letF _ (by omega)
    have i3 : idxL 61 = 64 := by decide
    have e4 : ¬ b.toNat % 16 * 4 = 64 := by omega
    have hlf : leftOf (letF (b.toNat % 16 * 4)) 61 = 2 := by
      unfold leftOf; rw [i4, i3, if_neg (by omega), if_pos ⟨rfl, rfl⟩]
    simp only [enc3, refDec, refBytes, hlf, idx0, i1, i2, i3, i4, if_neg (show ¬ a.toNat / 4 = 64 by omega), if_neg (show ¬ a.toNat % 4 * 16 + b.toNat / 16 = 64 by omega), if_neg e4, if_true, List.append_nil, List.take_succ_cons, List.take_zero]
    rw [ofNat_eq (c := a) (by omega), ofNat_eq (c := b) (by omega)]
  | a :: b :: c :: r => by
    have ha := a.toNat_lt
    have hb := b.toNat_lt
    have hc := c.toNat_lt
    have i1 : idxL (letF (a.toNat / 4)) = a.toNat / 4 := idxL_letF _ (by omega)
    have i2 : idxL (letF (a.toNat % 4 * 16 + b.toNat / 16)) = a.toNat % 4 * 16 + b.toNat / 16 := idxL_letF _ (by omega)
    have i3 : idxL (letF (b.toNat % 16 * 4 + c.toNat / 64)) = b.toNat % 16 * 4 + c.toNat / 64 := idxL_letF _ (by omega)
    have i4 : idxL (letF (c.toNat % 64)) = c.toNat % 64 := idxL_letF _ (by omega)
    have ih := refDec_enc3 r
    have e3 : ¬ b.toNat % 16 * 4 + c.toNat / 64 = 64 := by omega
    have e4 : ¬ c.toNat % 64 = 64 := by omega
    have hlf : leftOf (letF (b.toNat % 16 * 4 + c.toNat / 64)) (letF (c.toNat % 64)) = 3 := by
      unfold leftOf; rw [i3, i4, if_neg (by omega), if_neg (by omega)]
    simp only [enc3, refDec, refBytes, hlf, idx0, i1, i2, i3, i4, if_neg (show ¬ a.toNat / 4 = 64 by omega), if_neg (show ¬ a.toNat % 4 * 16 + b.toNat / 16 = 64 by omega), if_neg e3, if_neg e4, ih]
    generalize hn : a.toNat / 4 * 262144 + (a.toNat % 4 * 16 + b.toNat / 16) * 4096 + (b.toNat % 16 * 4 + c.toNat / 64) * 64 + c.toNat % 64 = n
    have e1 : n / 65536 = a.toNat := by omega
    have e2 : n / 256 % 256 = b.toNat := by omega
    have e5 : n % 256 = c.toNat := by omega
    rw [ofNat_eq (c := a) (by omega), ofNat_eq (c := b) (by omega), ofNat_eq (c := c) (by omega)]
    rfl
/-- A text opens just if the document's way back is sealed to it. -/
theorem openF_ref (s : List UInt8) : openF s = if enc3 (refDec s) = s then some (refDec s) else none := by
  split
  · rename_i h
    have := openF_enc3 (refDec s)
    rwa [h] at this
  · rename_i h
    cases ho : openF s with
    | none => rfl
    | some o =>
      have := enc3_openF ho
      exfalso
      apply h
      rw [← this, refDec_enc3]
/-! ### The document's way there, three bytes at a time -/
def quadN (l : List UInt8) (i : Nat) : Nat := (l.getD i 0).toNat * 65536 + (l.getD (i + 1) 0).toNat * 256 + (l.getD (i + 2) 0).toNat
def quad (l : List UInt8) (i : Nat) : List UInt8 :=
  [letF (quadN l i / 262144), letF (quadN l i / 4096 % 64), if i + 1 < l.length then letF (quadN l i / 64 % 64) else 61, if i + 2 < l.length then letF (quadN l i % 64) else 61]
theorem enc3_quad {l : List UInt8} {i : Nat} (h : i < l.length) : enc3 (l.drop i) = quad l i ++ enc3 (l.drop (i + 3)) := by
  have g : ∀ k, (l.drop i).getD k 0 = l.getD (i + k) 0 := by intro k; simp [List.getD, List.getElem?_drop]
  have hl : (l.drop i).length = l.length - i := by simp
  have hd : l.drop (i + 3) = (l.drop i).drop 3 := by rw [List.drop_drop]
  unfold quad quadN
  rw [hd]
  have g0 := g 0
  have g1 := g 1
  have g2 := g 2
  rw [Nat.add_zero] at g0
  rw [← g0, ← g1, ← g2]
  generalize l.drop i = r at hl
  match r, hl with
  | [], hl => simp at hl; omega
  | [a], hl =>
    have ha := a.toNat_lt
    simp only [List.length_cons, List.length_nil] at hl
    simp only [List.getD_cons_zero, List.getD_cons_succ, List.getD_nil]
    rw [if_neg (by omega), if_neg (by omega)]
    have z : (0 : UInt8).toNat = 0 := rfl
    simp only [enc3, z, List.drop_succ_cons, List.drop_nil, List.cons_append, List.nil_append]
    rw [show (a.toNat * 65536 + 0 * 256 + 0) / 262144 = a.toNat / 4 by omega, show (a.toNat * 65536 + 0 * 256 + 0) / 4096 % 64 = a.toNat % 4 * 16 by omega]
  | [a, b], hl =>
    have ha := a.toNat_lt
    have hb := b.toNat_lt
    simp only [List.length_cons, List.length_nil] at hl
    simp only [List.getD_cons_zero, List.getD_cons_succ, List.getD_nil]
    rw [if_pos (by omega), if_neg (by omega)]
    have z : (0 : UInt8).toNat = 0 := rfl
    simp only [enc3, z, List.drop_succ_cons, List.drop_nil, List.cons_append, List.nil_append]
    rw [show (a.toNat * 65536 + b.toNat * 256 + 0) / 262144 = a.toNat / 4 by omega, show (a.toNat * 65536 + b.toNat * 256 + 0) / 4096 % 64 = a.toNat % 4 * 16 + b.toNat / 16 by omega, show (a.toNat * 65536 + b.toNat * 256 + 0) / 64 % 64 = b.toNat % 16 * 4 by omega]
  | a :: b :: c :: t, hl =>
    have ha := a.toNat_lt
    have hb := b.toNat_lt
    have hc := c.toNat_lt
    simp only [List.length_cons] at hl
    simp only [List.getD_cons_zero, List.getD_cons_succ]
    rw [if_pos (by omega), if_pos (by omega)]
    simp only [enc3, List.drop_succ_cons, List.drop_zero, List.cons_append, List.nil_append]
    rw [show (a.toNat * 65536 + b.toNat * 256 + c.toNat) / 262144 = a.toNat / 4 by omega, show (a.toNat * 65536 + b.toNat * 256 + c.toNat) / 4096 % 64 = a.toNat % 4 * 16 + b.toNat / 16 by omega, show (a.toNat * 65536 + b.toNat * 256 + c.toNat) / 64 % 64 = b.toNat % 16 * 4 + c.toNat / 64 by omega, show (a.toNat * 65536 + b.toNat * 256 + c.toNat) % 64 = c.toNat % 64 by omega]
theorem quad_len (l : List UInt8) (i : Nat) : (quad l i).length = 4 := rfl
/-! ### Four letters back, one by one -/
def refN (g : List UInt8) : Nat → Nat
  | 0 => 0
  | k + 1 => 64 * refN g k + idx0 (g.getD k 0)
def refLeft (g : List UInt8) : Nat → Nat
  | 0 => 3
  | k + 1 => if idxL (g.getD k 0) = 64 ∧ g.getD k 0 = 61 ∧ 2 ≤ k ∧ 1 < refLeft g k then min (refLeft g k) (k - 1) else refLeft g k
theorem idx0_lt (c : UInt8) : idx0 c < 64 := by
  have := idxL_le c
  unfold idx0
  split <;> omega
theorem refN_lt (g : List UInt8) : ∀ k, refN g k < 64 ^ k
  | 0 => by simp [refN]
  | k + 1 => by
    have h := refN_lt g k
    have h2 := idx0_lt (g.getD k 0)
    simp only [refN, Nat.pow_succ]
    omega
theorem refLeft_4 (g : List UInt8) : refLeft g 4 = leftOf (g.getD 2 0) (g.getD 3 0) ∧ ∀ k, 1 ≤ refLeft g k ∧ refLeft g k ≤ 3 := by
  constructor
  · have h00 : refLeft g 1 = 3 := by
      rw [refLeft, if_neg (by omega)]; rfl
    have h0 : refLeft g 2 = 3 := by
      rw [refLeft, if_neg (by omega), h00]
    have h1 : refLeft g 3 = if idxL (g.getD 2 0) = 64 ∧ g.getD 2 0 = 61 then 1 else 3 := by
      rw [refLeft, h0]
      by_cases h : idxL (g.getD 2 0) = 64 ∧ g.getD 2 0 = 61
      · rw [if_pos ⟨h.1, h.2, by omega, by omega⟩, if_pos h]; rfl
      · rw [if_neg (fun h2 => h ⟨h2.1, h2.2.1⟩), if_neg h]
    rw [refLeft, h1]
    unfold leftOf
    by_cases h : idxL (g.getD 2 0) = 64 ∧ g.getD 2 0 = 61
    · rw [if_pos h, if_pos h, if_neg (by omega)]
    · rw [if_neg h, if_neg h]
      by_cases h2 : idxL (g.getD 3 0) = 64 ∧ g.getD 3 0 = 61
      · rw [if_pos ⟨h2.1, h2.2, by omega, by omega⟩, if_pos h2]; rfl
      · rw [if_neg (fun h3 => h2 ⟨h3.1, h3.2.1⟩), if_neg h2]
  · intro k
    induction k with
    | zero => simp [refLeft]
    | succ k ih =>
      simp only [refLeft]
      split <;> omega
theorem refBytes_eq (g : List UInt8) : refBytes (g.getD 0 0) (g.getD 1 0) (g.getD 2 0) (g.getD 3 0) = [UInt8.ofNat (refN g 4 / 65536), UInt8.ofNat (refN g 4 / 256 % 256), UInt8.ofNat (refN g 4 % 256)].take (refLeft g 4) := by
  have : refN g 4 = idx0 (g.getD 0 0) * 262144 + idx0 (g.getD 1 0) * 4096 + idx0 (g.getD 2 0) * 64 + idx0 (g.getD 3 0) := by simp only [refN]; omega
  rw [this, (refLeft_4 g).1]
  rfl
theorem refDec_step {s : List UInt8} {i : Nat} (h : i + 3 < s.length) : refDec (s.drop i) = refBytes ((s.drop i).getD 0 0) ((s.drop i).getD 1 0) ((s.drop i).getD 2 0) ((s.drop i).getD 3 0) ++ refDec (s.drop (i + 4)) := by
  have hl : (s.drop i).length = s.length - i := by simp
  have hd : s.drop (i + 4) = (s.drop i).drop 4 := by rw [List.drop_drop]
  rw [hd]
  generalize s.drop i = r at hl
  match r, hl with
  | [], hl => simp at hl; omega
  | [_], hl => simp at hl; omega
  | [_, _], hl => simp at hl; omega
  | [_, _, _], hl => simp at hl; omega
  | a :: b :: c :: d :: t, _ => simp [refDec]
theorem refDec_end {s : List UInt8} {i : Nat} (h : ¬ i + 3 < s.length) : refDec (s.drop i) = [] := by
  have hl : (s.drop i).length = s.length - i := by simp
  generalize s.drop i = r at hl
  match r, hl with
  | [], _ => rfl
  | [_], _ => rfl
  | [_, _], _ => rfl
  | [_, _, _], _ => rfl
  | _ :: _ :: _ :: _ :: t, hl => simp at hl; omega
theorem refDec_le : ∀ (n : Nat) (s : List UInt8), s.length ≤ n → (refDec s).length ≤ n
  | 0, s, h => by
    have : s = [] := List.eq_nil_of_length_eq_zero (by omega)
    subst this; simp [refDec]
  | n + 1, s, h => by
    match s, h with
    | [], _ => simp [refDec]
    | [_], _ => simp [refDec]
    | [_, _], _ => simp [refDec]
    | [_, _, _], _ => simp [refDec]
    | a :: b :: c :: d :: r, h =>
      have := refDec_le (n - 3) r (by simp at h; omega)
      simp only [refDec, List.length_append, refBytes]
      have h2 : ([UInt8.ofNat ((idx0 a * 262144 + idx0 b * 4096 + idx0 c * 64 + idx0 d) / 65536), UInt8.ofNat ((idx0 a * 262144 + idx0 b * 4096 + idx0 c * 64 + idx0 d) / 256 % 256), UInt8.ofNat ((idx0 a * 262144 + idx0 b * 4096 + idx0 c * 64 + idx0 d) % 256)].take (leftOf c d)).length ≤ 3 := by
        simp only [List.length_take, List.length_cons, List.length_nil]; omega
      simp at h
      omega
end Go.Sb
