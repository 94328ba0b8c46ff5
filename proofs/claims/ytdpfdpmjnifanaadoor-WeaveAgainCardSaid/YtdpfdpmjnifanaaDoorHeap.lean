/- A heap told as a list of its parts, each with what it is known to hold: parts do not meet, and whatever lies beside them is left open. Plain definitions and laws, over any program. -/
import Derived.WalkKit
import Derived.Below
namespace Go.Sb
open Go Go.RowKit
set_option linter.unusedSimpArgs false
set_option linter.unusedVariables false

abbrev Hp := Nat → Option Obj
abbrev HP := Hp → Prop
def Hp.dj (g h : Hp) : Prop := ∀ b, g b = none ∨ h b = none
def Hp.emp : Hp := fun _ => none
def Hp.un (g h : Hp) : Hp := fun b => match g b with | some o => some o | none => h b
def Hp.one (b : Nat) (o : Obj) : Hp := fun k => if k = b then some o else none
def Hp.sub (h : Hp) (w : World) : Prop := ∀ b o, h b = some o → w.heap[b]? = some o

theorem Hp.dj_comm {g h : Hp} (d : g.dj h) : h.dj g := fun b => (d b).symm
theorem Hp.emp_dj (g : Hp) : Hp.emp.dj g := fun _ => .inl rfl
theorem Hp.dj_emp (g : Hp) : g.dj Hp.emp := fun _ => .inr rfl
theorem Hp.un_dj {g h k : Hp} (d : g.dj k) (e : h.dj k) : (g.un h).dj k := by
  intro b
  rcases d b with hd | hd
  · rcases e b with he | he
    · left; simp [Hp.un, hd, he]
    · exact .inr he
  · exact .inr hd
theorem Hp.dj_un {g h k : Hp} (d : Hp.dj g h) (e : Hp.dj g k) : Hp.dj g (h.un k) := Hp.dj_comm (Hp.un_dj (Hp.dj_comm d) (Hp.dj_comm e))
theorem Hp.dj_un_left {g h k : Hp} (d : g.dj (h.un k)) : g.dj h := by
  intro b
  rcases d b with hd | hd
  · exact .inl hd
  · right
    simp only [Hp.un] at hd
    cases hh : h b with
    | none => rfl
    | some o => simp [hh] at hd
theorem Hp.dj_un_right {g h k : Hp} (_ : h.dj k) (d : g.dj (h.un k)) : g.dj k := by
  intro b
  rcases d b with hd | hd
  · exact .inl hd
  · right
    simp only [Hp.un] at hd
    cases hh : h b with
    | none => simpa [hh] using hd
    | some o => simp [hh] at hd
theorem Hp.sub_un {g h : Hp} {w : World} (a : g.sub w) (b : h.sub w) : (g.un h).sub w := by
  intro k o e
  simp only [Hp.un] at e
  cases hg : g k with
  | none => rw [hg] at e; exact b k o e
  | some u => rw [hg] at e; exact a k o (by rw [hg]; exact e)
theorem Hp.sub_un_left {g h : Hp} {w : World} (a : (g.un h).sub w) : g.sub w := by
  intro k o e
  exact a k o (by simp [Hp.un, e])
theorem Hp.sub_un_right {g h : Hp} {w : World} (d : g.dj h) (a : (g.un h).sub w) : h.sub w := by
  intro k o e
  refine a k o ?_
  rcases d k with hd | hd
  · simp [Hp.un, hd, e]
  · rw [hd] at e; cases e
theorem Hp.one_dj {b c : Nat} {o u : Obj} (h : b ≠ c) : (Hp.one b o).dj (Hp.one c u) := by
  intro k
  by_cases e : k = b
  · right; simp only [Hp.one]; rw [if_neg]; omega
  · left; simp only [Hp.one]; rw [if_neg e]

/-! ### What a part is known to hold -/
def emp : HP := fun h => h = Hp.emp
def pts (b : Nat) (o : Obj) : HP := fun h => h = Hp.one b o
def star (A B : HP) : HP := fun h => ∃ g k, Hp.dj g k ∧ h = g.un k ∧ A g ∧ B k
def ex {α : Type} (f : α → HP) : HP := fun h => ∃ x, f x h
def pr (p : Prop) (A : HP) : HP := fun h => p ∧ A h
/-- A part told whole. -/
def is (g : Hp) : HP := fun h => h = g

/-- THE WORLD HAS THESE PARTS; its streams and its tape are Z's. -/
structure St (Z w : World) (L : List HP) : Prop where
  os : w.os = Z.os
  tape : w.tape = Z.tape
  output : w.output = Z.output
  parts : ∃ M : List (HP × Hp), M.map (·.1) = L ∧ (∀ x ∈ M, x.1 x.2) ∧ M.Pairwise (fun x y => Hp.dj x.2 y.2) ∧ ∀ x ∈ M, Hp.sub x.2 w

theorem map_perm {α β : Type} (f : α → β) : ∀ {L L' : List β}, L.Perm L' → ∀ M : List α, M.map f = L → ∃ M', M.Perm M' ∧ M'.map f = L' := by
  intro L L' p
  induction p with
  | nil => intro M h; exact ⟨M, .refl _, h⟩
  | cons x _ ih =>
    intro M h
    cases M with
    | nil => cases h
    | cons a M =>
      simp only [List.map_cons, List.cons.injEq] at h
      obtain ⟨M', h1, h2⟩ := ih M h.2
      exact ⟨a :: M', h1.cons a, by simp [h.1, h2]⟩
  | swap x y l =>
    intro M h
    match M, h with
    | a :: b :: M, h =>
      simp only [List.map_cons, List.cons.injEq] at h
      exact ⟨b :: a :: M, .swap b a M, by simp [h.1, h.2.1, h.2.2]⟩
  | trans _ _ ih1 ih2 =>
    intro M h
    obtain ⟨M1, h1, h2⟩ := ih1 M h
    obtain ⟨M2, h3, h4⟩ := ih2 M1 h2
    exact ⟨M2, h1.trans h3, h4⟩

variable {Z w w' : World} {L L' : List HP}
theorem St.perm (h : St Z w L) (p : L.Perm L') : St Z w L' := by
  obtain ⟨M, h1, h2, h3, h4⟩ := h.parts
  obtain ⟨M', p', e⟩ := map_perm (·.1) p M h1
  exact ⟨h.os, h.tape, h.output, M', e, fun x hx => h2 x (p'.mem_iff.2 hx), (p'.pairwise_iff (fun d => Hp.dj_comm d)).1 h3, fun x hx => h4 x (p'.mem_iff.2 hx)⟩
theorem erase_perm {α : Type} : ∀ {l : List α} {i : Nat} {x : α}, l[i]? = some x → l.Perm (x :: l.eraseIdx i)
  | a :: l, 0, x, h => by simp at h; subst h; exact .refl _
  | a :: l, i + 1, x, h => by
    have h1 := erase_perm (l := l) (i := i) (x := x) (by simpa using h)
    exact (h1.cons a).trans (.swap x a _)
theorem put_perm {α : Type} : ∀ {l : List α} {i : Nat} (x : α), i < l.length → (x :: l.eraseIdx i).Perm (l.set i x)
  | a :: l, 0, x, _ => .refl _
  | a :: l, i + 1, x, h => by
    have h1 := put_perm (l := l) (i := i) x (by simpa using h)
    exact (List.Perm.swap a x _).trans (h1.cons a)
theorem St.front {i : Nat} {X : HP} (h : St Z w L) (hi : L[i]? = some X) : St Z w (X :: L.eraseIdx i) := by
  exact h.perm (erase_perm hi)
theorem St.back {i : Nat} {X : HP} (hi : i < L.length) (h : St Z w (X :: L.eraseIdx i)) : St Z w (L.set i X) := h.perm (put_perm X hi)

theorem St.drop0 {X : HP} (h : St Z w (X :: L)) : St Z w L := by
  obtain ⟨M, h1, h2, h3, h4⟩ := h.parts
  cases M with
  | nil => cases h1
  | cons a M =>
    simp only [List.map_cons, List.cons.injEq] at h1
    exact ⟨h.os, h.tape, h.output, M, h1.2, fun x hx => h2 x (.tail _ hx), (List.pairwise_cons.1 h3).2, fun x hx => h4 x (.tail _ hx)⟩
theorem St.drop {i : Nat} (h : St Z w L) (hi : i < L.length) : St Z w (L.eraseIdx i) := (h.front (List.getElem?_eq_getElem hi)).drop0
theorem St.conv0 {X Y : HP} (hXY : ∀ h, X h → Y h) (h : St Z w (X :: L)) : St Z w (Y :: L) := by
  obtain ⟨M, h1, h2, h3, h4⟩ := h.parts
  cases M with
  | nil => cases h1
  | cons a M =>
    simp only [List.map_cons, List.cons.injEq] at h1
    refine ⟨h.os, h.tape, h.output, (Y, a.2) :: M, by simp [h1.2], ?_, ?_, ?_⟩
    · intro x hx
      rcases List.mem_cons.1 hx with rfl | hx
      · exact hXY _ (h1.1 ▸ h2 a (.head _))
      · exact h2 x (.tail _ hx)
    · exact List.pairwise_cons.2 ⟨(List.pairwise_cons.1 h3).1, (List.pairwise_cons.1 h3).2⟩
    · intro x hx
      rcases List.mem_cons.1 hx with rfl | hx
      · exact h4 a (.head _)
      · exact h4 x (.tail _ hx)
theorem St.conv {i : Nat} {X Y : HP} (hi : L[i]? = some X) (hXY : ∀ h, X h → Y h) (h : St Z w L) : St Z w (L.set i Y) := by
  have hlt := (List.getElem?_eq_some_iff.1 hi).1
  exact ((h.front hi).conv0 hXY).back hlt
theorem St.part0 {X : HP} (h : St Z w (X :: L)) : ∃ g, X g ∧ Hp.sub g w := by
  obtain ⟨M, h1, h2, h3, h4⟩ := h.parts
  cases M with
  | nil => cases h1
  | cons a M =>
    simp only [List.map_cons, List.cons.injEq] at h1
    exact ⟨a.2, h1.1 ▸ h2 a (.head _), h4 a (.head _)⟩
theorem St.part {i : Nat} {X : HP} (h : St Z w L) (hi : L[i]? = some X) : ∃ g, X g ∧ Hp.sub g w := (h.front hi).part0
/-- The first part's own heap, beside the others. -/
theorem St.open0 {X : HP} (h : St Z w (X :: L)) : ∃ g, X g ∧ St Z w (is g :: L) := by
  obtain ⟨M, h1, h2, h3, h4⟩ := h.parts
  cases M with
  | nil => cases h1
  | cons a M =>
    simp only [List.map_cons, List.cons.injEq] at h1
    refine ⟨a.2, h1.1 ▸ h2 a (.head _), h.os, h.tape, h.output, (is a.2, a.2) :: M, by simp [h1.2], ?_, ?_, ?_⟩
    · intro x hx
      rcases List.mem_cons.1 hx with rfl | hx
      · exact rfl
      · exact h2 x (.tail _ hx)
    · exact List.pairwise_cons.2 ⟨(List.pairwise_cons.1 h3).1, (List.pairwise_cons.1 h3).2⟩
    · intro x hx
      rcases List.mem_cons.1 hx with rfl | hx
      · exact h4 a (.head _)
      · exact h4 x (.tail _ hx)
theorem St.ex0 {α : Type} {f : α → HP} (h : St Z w (ex f :: L)) : ∃ x, St Z w (f x :: L) := by
  obtain ⟨g, ⟨x, hx⟩, hs⟩ := h.open0
  exact ⟨x, hs.conv0 (fun k hk => by cases hk; exact hx)⟩
theorem St.ex {i : Nat} {α : Type} {f : α → HP} (hi : L[i]? = some (ex f)) (h : St Z w L) : ∃ x, St Z w (L.set i (f x)) := by
  obtain ⟨x, hx⟩ := (h.front hi).ex0
  exact ⟨x, hx.back (List.getElem?_eq_some_iff.1 hi).1⟩
theorem St.pr0 {p : Prop} {A : HP} (h : St Z w (pr p A :: L)) : p ∧ St Z w (A :: L) := by
  obtain ⟨g, ⟨hp, _⟩, _⟩ := h.open0
  exact ⟨hp, h.conv0 (fun _ hk => hk.2)⟩
theorem St.pr {i : Nat} {p : Prop} {A : HP} (hi : L[i]? = some (pr p A)) (h : St Z w L) : p ∧ St Z w (L.set i A) := by
  obtain ⟨hp, hx⟩ := (h.front hi).pr0
  exact ⟨hp, hx.back (List.getElem?_eq_some_iff.1 hi).1⟩
theorem St.split0 {A B : HP} (h : St Z w (star A B :: L)) : St Z w (A :: B :: L) := by
  obtain ⟨M, h1, h2, h3, h4⟩ := h.parts
  cases M with
  | nil => cases h1
  | cons a M =>
    simp only [List.map_cons, List.cons.injEq] at h1
    obtain ⟨g, k, hd, he, hA, hB⟩ : star A B a.2 := h1.1 ▸ h2 a (.head _)
    have hp := List.pairwise_cons.1 h3
    have hs : Hp.sub (g.un k) w := he ▸ h4 a (.head _)
    refine ⟨h.os, h.tape, h.output, (A, g) :: (B, k) :: M, by simp [h1.2], ?_, ?_, ?_⟩
    · intro x hx
      rcases List.mem_cons.1 hx with rfl | hx
      · exact hA
      rcases List.mem_cons.1 hx with rfl | hx
      · exact hB
      · exact h2 x (.tail _ hx)
    · refine List.pairwise_cons.2 ⟨?_, List.pairwise_cons.2 ⟨?_, hp.2⟩⟩
      · intro x hx
        rcases List.mem_cons.1 hx with rfl | hx
        · exact hd
        · have := hp.1 x hx; rw [he] at this; exact Hp.dj_comm (Hp.dj_un_left (Hp.dj_comm this))
      · intro x hx
        have := hp.1 x hx; rw [he] at this; exact Hp.dj_comm (Hp.dj_un_right hd (Hp.dj_comm this))
    · intro x hx
      rcases List.mem_cons.1 hx with rfl | hx
      · exact Hp.sub_un_left hs
      rcases List.mem_cons.1 hx with rfl | hx
      · exact Hp.sub_un_right hd hs
      · exact h4 x (.tail _ hx)
theorem St.join0 {A B : HP} (h : St Z w (A :: B :: L)) : St Z w (star A B :: L) := by
  obtain ⟨M, h1, h2, h3, h4⟩ := h.parts
  match M, h1 with
  | a :: b :: M, h1 =>
    simp only [List.map_cons, List.cons.injEq] at h1
    have hp := List.pairwise_cons.1 h3
    have hq := List.pairwise_cons.1 hp.2
    have hab : Hp.dj a.2 b.2 := hp.1 b (.head _)
    refine ⟨h.os, h.tape, h.output, (star A B, a.2.un b.2) :: M, by simp [h1.2.2], ?_, ?_, ?_⟩
    · intro x hx
      rcases List.mem_cons.1 hx with rfl | hx
      · exact ⟨a.2, b.2, hab, rfl, h1.1 ▸ h2 a (.head _), h1.2.1 ▸ h2 b (.tail _ (.head _))⟩
      · exact h2 x (.tail _ (.tail _ hx))
    · refine List.pairwise_cons.2 ⟨?_, hq.2⟩
      intro x hx
      exact Hp.un_dj (hp.1 x (.tail _ hx)) (hq.1 x hx)
    · intro x hx
      rcases List.mem_cons.1 hx with rfl | hx
      · exact Hp.sub_un (h4 a (.head _)) (h4 b (.tail _ (.head _)))
      · exact h4 x (.tail _ (.tail _ hx))
theorem St.emp0 (h : St Z w L) : St Z w (emp :: L) := by
  obtain ⟨M, h1, h2, h3, h4⟩ := h.parts
  refine ⟨h.os, h.tape, h.output, (emp, Hp.emp) :: M, by simp [h1], ?_, ?_, ?_⟩
  · intro x hx
    rcases List.mem_cons.1 hx with rfl | hx
    · exact rfl
    · exact h2 x hx
  · exact List.pairwise_cons.2 ⟨fun x _ => Hp.emp_dj _, h3⟩
  · intro x hx
    rcases List.mem_cons.1 hx with rfl | hx
    · intro b o e; cases e
    · exact h4 x hx

/-! ### Several parts as one -/
def stars : List HP → HP
  | [] => emp
  | A :: l => star A (stars l)
theorem St.splits0 : ∀ {l : List HP} {L : List HP}, St Z w (stars l :: L) → St Z w (l ++ L)
  | [], _, h => h.drop0
  | A :: l, L, h => by
    have h1 := h.split0
    have h2 : St Z w (stars l :: (L ++ [A])) := h1.perm (by
      refine (List.Perm.swap _ _ _).trans (List.Perm.cons _ ?_)
      exact (List.perm_append_comm (l₁ := [A]) (l₂ := L)))
    have h3 := St.splits0 h2
    refine h3.perm ?_
    rw [← List.append_assoc]
    exact (List.perm_append_comm (l₁ := l ++ L) (l₂ := [A]))
theorem St.joins0 : ∀ {l : List HP} {L : List HP}, St Z w (l ++ L) → St Z w (stars l :: L)
  | [], _, h => h.emp0
  | A :: l, L, h => by
    have h2 : St Z w (l ++ (L ++ [A])) := h.perm (by
      rw [← List.append_assoc]
      exact (List.perm_append_comm (l₁ := [A]) (l₂ := l ++ L)))
    have h3 := St.joins0 h2
    refine St.join0 (h3.perm ?_)
    refine List.Perm.trans (List.Perm.cons _ ((List.perm_append_comm (l₁ := L) (l₂ := [A])))) ?_
    exact List.Perm.swap _ _ _

/-! ### Cells -/
theorem St.block0 {b : Nat} {o : Obj} (h : St Z w (pts b o :: L)) : w.heap[b]? = some o := by
  obtain ⟨g, hg, hs⟩ := h.part0
  cases hg
  exact hs b o (by simp [Hp.one])
theorem St.block {i b : Nat} {o : Obj} (h : St Z w L) (hi : L[i]? = some (pts b o)) : w.heap[b]? = some o := (h.front hi).block0
theorem St.set0 {b : Nat} {o o' : Obj} (h : St Z w (pts b o :: L)) (hw' : w'.os = w.os ∧ w'.tape = w.tape ∧ w'.output = w.output) (hb : w'.heap[b]? = some o') (ho : ∀ k, k ≠ b → w'.heap[k]? = w.heap[k]?) : St Z w' (pts b o' :: L) := by
  obtain ⟨M, h1, h2, h3, h4⟩ := h.parts
  cases M with
  | nil => cases h1
  | cons a M =>
    simp only [List.map_cons, List.cons.injEq] at h1
    have ha : a.2 = Hp.one b o := by have := h2 a (.head _); rw [h1.1] at this; exact this
    have hp := List.pairwise_cons.1 h3
    have hfar : ∀ x ∈ M, x.2 b = none := by
      intro x hx
      rcases hp.1 x hx b with hd | hd
      · rw [ha] at hd; simp [Hp.one] at hd
      · exact hd
    refine ⟨hw'.1.trans h.os, hw'.2.1.trans h.tape, hw'.2.2.trans h.output, (pts b o', Hp.one b o') :: M, by simp [h1.2], ?_, ?_, ?_⟩
    · intro x hx
      rcases List.mem_cons.1 hx with rfl | hx
      · exact rfl
      · exact h2 x (.tail _ hx)
    · refine List.pairwise_cons.2 ⟨?_, hp.2⟩
      intro x hx k
      by_cases e : k = b
      · subst e; exact .inr (hfar x hx)
      · left; simp [Hp.one, e]
    · intro x hx
      rcases List.mem_cons.1 hx with rfl | hxm
      · intro k u e
        simp only [Hp.one] at e
        split at e
        · rename_i hk; subst hk; cases e; exact hb
        · cases e
      · intro k u e
        have hk : k ≠ b := by rintro rfl; rw [hfar x hxm] at e; cases e
        rw [ho k hk]
        exact h4 x (.tail _ hxm) k u e
/-- A new block. -/
theorem St.new0 {o : Obj} (h : St Z w L) (hw' : w'.os = w.os ∧ w'.tape = w.tape ∧ w'.output = w.output) (hb : w'.heap = w.heap.push o) : St Z w' (pts w.heap.size o :: L) := by
  obtain ⟨M, h1, h2, h3, h4⟩ := h.parts
  have hfar : ∀ x ∈ M, x.2 w.heap.size = none := by
    intro x hx
    cases hh : x.2 w.heap.size with
    | none => rfl
    | some u =>
      have := h4 x hx _ _ hh
      simp at this
  refine ⟨hw'.1.trans h.os, hw'.2.1.trans h.tape, hw'.2.2.trans h.output, (pts w.heap.size o, Hp.one w.heap.size o) :: M, by simp [h1], ?_, ?_, ?_⟩
  · intro x hx
    rcases List.mem_cons.1 hx with rfl | hx
    · exact rfl
    · exact h2 x hx
  · refine List.pairwise_cons.2 ⟨?_, h3⟩
    intro x hx k
    by_cases e : k = w.heap.size
    · subst e; exact .inr (hfar x hx)
    · left; simp [Hp.one, e]
  · intro x hx
    rcases List.mem_cons.1 hx with rfl | hx
    · intro k u e
      simp only [Hp.one] at e
      split at e
      · rename_i hk; subst hk; cases e; rw [hb]; simp
      · cases e
    · intro k u e
      have h5 := h4 x hx k u e
      have hk : k < w.heap.size := (Array.getElem?_eq_some_iff.1 h5).1
      rw [hb, Array.getElem?_push, if_neg (by omega)]
      exact h5
/-- Whatever keeps each block that was there keeps the parts. -/
theorem St.keep (h : St Z w L) (hw' : w'.os = w.os ∧ w'.tape = w.tape ∧ w'.output = w.output) (hb : ∀ k, k < w.heap.size → w'.heap[k]? = w.heap[k]?) : St Z w' L := by
  obtain ⟨M, h1, h2, h3, h4⟩ := h.parts
  refine ⟨hw'.1.trans h.os, hw'.2.1.trans h.tape, hw'.2.2.trans h.output, M, h1, h2, h3, ?_⟩
  intro x hx k u e
  have h5 := h4 x hx k u e
  rw [hb k (Array.getElem?_eq_some_iff.1 h5).1]
  exact h5
theorem St.below {B : Nat} (h : St Z w L) (hb : Below B w w') (hB : w.heap.size ≤ B) : St Z w' L :=
  h.keep ⟨hb.os, hb.tape, hb.output⟩ (fun k hk => hb.block k (by omega))
theorem St.drawn (h : St Z w L) (n : Nat) : St Z { w with drawn := n } L := h.keep ⟨rfl, rfl, rfl⟩ (fun _ _ => rfl)
theorem St.self (W : World) : St W W [is (fun b => W.heap[b]?)] := by
  refine ⟨rfl, rfl, rfl, [(is (fun b => W.heap[b]?), fun b => W.heap[b]?)], rfl, ?_, ?_, ?_⟩
  · intro x hx; simp only [List.mem_singleton] at hx; subst hx; exact rfl
  · simp
  · intro x hx; simp only [List.mem_singleton] at hx; subst hx; intro b o e; exact e
/-- At the end: what was there is as it was. -/
theorem St.toBelow {i : Nat} (h : St Z w L) (hi : L[i]? = some (is (fun b => Z.heap[b]?))) : Below Z.heap.size Z w := by
  obtain ⟨g, hg, hs⟩ := h.part hi
  cases hg
  have hblk : ∀ k, k < Z.heap.size → w.heap[k]? = Z.heap[k]? := fun k hk => by
    have := hs k Z.heap[k] (Array.getElem?_eq_getElem hk)
    rw [this, Array.getElem?_eq_getElem hk]
  refine ⟨h.os, h.tape, h.output, ?_, hblk⟩
  rcases Nat.lt_or_ge w.heap.size Z.heap.size with hlt | hge
  · have h1 := hblk w.heap.size hlt
    rw [Array.getElem?_eq_getElem hlt] at h1
    simp at h1
  · exact hge
end Go.Sb
