/- P10: the plain law of audit.Minus. No program in it. -/
import Derived.Test.YtpahmlgbljfcjaaBase17
namespace Go.Proofs.Ytpahmlgbljfcjaa
open Go.RowKit Go.Sac
set_option linter.unusedVariables false
set_option linter.unusedSimpArgs false
section
variable {K : Type} [DecidableEq K]
/-- without some: (m k) of each key k are passed by -/
def minusG : List K → (K → Nat) → List K
  | [], _ => []
  | x :: a, m => if 0 < m x then minusG a (fun q => if q = x then m q - 1 else m q) else x :: minusG a m
theorem minusG_pos {x : K} {a : List K} {m : K → Nat} (h : 0 < m x) : minusG (x :: a) m = minusG a (fun q => if q = x then m q - 1 else m q) := if_pos h
theorem minusG_neg {x : K} {a : List K} {m : K → Nat} (h : m x = 0) : minusG (x :: a) m = x :: minusG a m := if_neg (by omega)
def minusL (a b : List K) : List K := minusG a (fun q => b.count q)
theorem minusG_congr : ∀ (a : List K) (m m' : K → Nat), (∀ x ∈ a, m x = m' x) → minusG a m = minusG a m' := by
  intro a
  induction a with
  | nil => intro m m' _; rfl
  | cons x a ih =>
    intro m m' h
    have hx := h x (by simp)
    unfold minusG
    rw [hx]
    split
    · refine ih _ _ fun y hy => ?_
      have := h y (by simp [hy])
      split <;> simp [this]
    · rw [ih m m' fun y hy => h y (by simp [hy])]
theorem count_minusG (k : K) : ∀ (a : List K) (m : K → Nat), (minusG a m).count k ≤ a.count k := by
  intro a
  induction a with
  | nil => intro m; simp [minusG]
  | cons x a ih =>
    intro m
    unfold minusG
    split
    · exact Nat.le_trans (ih _) (by rw [List.count_cons]; omega)
    · rw [List.count_cons, List.count_cons]
      have := ih m
      omega
theorem erase_count (l : List K) (x : K) : (fun q => (l.erase x).count q) = fun q => if q = x then l.count q - 1 else l.count q := by
  funext q
  rw [List.count_erase]
  by_cases h : q = x
  · subst h; simp
  · have : (x == q) = false := by simp; exact fun e => h e.symm
    simp [h, this]
theorem minusG_sub : ∀ (a l : List K), (∀ k, l.count k ≤ a.count k) → (minusL a l).length + l.length = a.length := by
  intro a
  induction a with
  | nil =>
    intro l h
    cases l with
    | nil => rfl
    | cons x l => have := h x; simp at this
  | cons x a ih =>
    intro l h
    unfold minusL minusG
    dsimp only
    split
    · rename_i hp
      have hm : x ∈ l := List.count_pos_iff.1 hp
      have he := ih (l.erase x) (fun k => by
        have h1 := h k
        have h2 : (l.erase x).count k = if k = x then l.count k - 1 else l.count k := congrFun (erase_count l x) k
        rw [h2]
        rw [List.count_cons] at h1
        split
        · rename_i e; subst e; simp at h1; omega
        · rename_i e
          have : (x == k) = false := by simp; exact fun e2 => e e2.symm
          simp [this] at h1
          exact h1)
      unfold minusL at he
      rw [erase_count] at he
      have hl := List.length_erase_of_mem hm
      have := List.length_pos_of_mem hm
      rw [List.length_cons]
      omega
    · rename_i hp
      have h0 : l.count x = 0 := by omega
      have he := ih l (fun k => by
        have h1 := h k
        rw [List.count_cons] at h1
        by_cases e : x = k
        · subst e; omega
        · simp [e] at h1; exact h1)
      unfold minusL at he
      simp only [List.length_cons]
      omega
theorem minusG_more (x : K) : ∀ (b : List K) (m : K → Nat), x ∈ b → (minusG b (fun q => if q = x then m q + 1 else m q)).length = (minusG (b.erase x) m).length := by
  intro b
  induction b with
  | nil => intro m h; simp at h
  | cons y b ih =>
    intro m h
    by_cases hyx : y = x
    · subst hyx
      rw [List.erase_cons_head, minusG_pos (by simp)]
      congr 1
      refine minusG_congr _ _ _ fun q _ => ?_
      split <;> simp
    · have hb : x ∈ b := by rcases List.mem_cons.1 h with e | e; exact absurd e.symm hyx; exact e
      rw [List.erase_cons_tail (by simp; exact hyx)]
      by_cases hp : 0 < m y
      · rw [minusG_pos (by simp only [if_neg hyx]; exact hp), minusG_pos hp, ← ih _ hb]
        congr 1
        refine minusG_congr _ _ _ fun q _ => ?_
        by_cases h1 : q = y
        · subst h1; simp [hyx]
        · by_cases h2 : q = x <;> simp [h1, h2, Ne.symm hyx]
      · rw [minusG_neg (by simp only [if_neg hyx]; omega), minusG_neg (by omega)]
        simp only [List.length_cons]
        rw [ih m hb]
theorem minus_nil (a : List K) : minusL a [] = a := by
  have h : ∀ a : List K, minusG a (fun _ => 0) = a := by
    intro a
    induction a with
    | nil => rfl
    | cons x b ih => unfold minusG; simp [ih]
  unfold minusL
  simp only [List.count_nil]
  exact h a
theorem minus_both : ∀ (a b : List K), (minusL a b).length + b.length = (minusL b a).length + a.length := by
  intro a
  induction a with
  | nil =>
    intro b
    have h : ∀ b : List K, minusL b [] = b := by
      intro b
      exact minus_nil b
    rw [h]
    simp [minusL, minusG]
  | cons x a ih =>
    intro b
    have hc : (fun q => (x :: a).count q) = fun q => if q = x then a.count q + 1 else a.count q := by
      funext q
      rw [List.count_cons]
      by_cases h : q = x
      · subst h; simp
      · have : (x == q) = false := by simp; exact fun e => h e.symm
        simp [h, this]
    by_cases hm : x ∈ b
    · have h1 : minusL (x :: a) b = minusL a (b.erase x) := by
        unfold minusL
        rw [erase_count]
        conv => lhs; unfold minusG
        rw [if_pos (List.count_pos_iff.2 hm)]
      have h2 : (minusL b (x :: a)).length = (minusL (b.erase x) a).length := by
        unfold minusL
        rw [hc]
        exact minusG_more x b _ hm
      have := ih (b.erase x)
      have hl := List.length_erase_of_mem hm
      have := List.length_pos_of_mem hm
      rw [h1, h2, List.length_cons]
      omega
    · have h1 : minusL (x :: a) b = x :: minusL a b := by
        unfold minusL
        conv => lhs; unfold minusG
        rw [if_neg (by rw [List.count_pos_iff]; exact hm)]
      have h2 : minusL b (x :: a) = minusL b a := by
        unfold minusL
        rw [hc]
        exact minusG_congr _ _ _ fun q hq => if_neg fun e => hm (by rw [← e]; exact hq)
      have := ih b
      rw [h1, h2, List.length_cons, List.length_cons]
      omega
theorem minus_shared (a b : List K) : (minusL a b).length + (minusL a (minusL a b)).length = a.length := by
  have := minusG_sub a (minusL a b) fun k => count_minusG k a _
  omega
theorem minus_shared' (a b : List K) : (minusL a (minusL a b)).length + (minusL b a).length = b.length := by
  have h1 := minus_shared a b
  have h2 := minus_both a b
  omega
theorem minus_self (a : List K) : minusL a a = [] := by
  have := minusG_sub a a fun k => Nat.le_refl _
  exact List.eq_nil_of_length_eq_zero (by omega)
end
end Go.Proofs.Ytpahmlgbljfcjaa
