/- W06Do: what is done to a world, as it lies; how long it is. -/
import Derived.Test.YtffhncpgknkkaaaBase12
import Derived.Test.YtffhncpgknkkaaaW06Sl
import Derived.Test.YtffhncpgknkkaaaW06Bump
namespace Go.Proofs.Ytffhncpgknkkaaa
open Go.RowKit Go.Sac
set_option linter.unusedVariables false
set_option linter.unusedSimpArgs false
structure Dd where
  kind : Int
  at_ : Int
  slot : Int
  n : Int
  A : Option Addr
  b : List UInt8
  c : Nat
def Dd.cells (x : Dd) : List Value := [.int .i64 x.kind, .int .i64 x.at_, .int .i64 x.slot, .int .i64 x.n, .slice x.A x.b.length x.c]
def dds (l : List Dd) : List Value := rowK Dd.cells l
def HeldD (w : World) (l : List Dd) : Prop := ∀ x ∈ l, Rc w x.A (bs x.b) ∧ x.b.length ≤ x.c
theorem HeldD.below {w w' : World} {l : List Dd} (h : HeldD w l) (hb : Below w.heap.size w w') : HeldD w' l := fun x hx => ⟨(h x hx).1.below hb, (h x hx).2⟩
theorem dds_len (x : Dd) : x.cells.length = 5 := rfl
def longD (l : List Dd) : Nat := (l.map fun x => 1 + x.b.length).sum
theorem longD_snoc (l : List Dd) (i : Nat) (h : i < l.length) : longD (l.take (i + 1)) = longD (l.take i) + (1 + l[i].b.length) := by
  unfold longD
  rw [List.take_succ_eq_append_getElem h, List.map_append, List.sum_append]
  simp
theorem longD_le (l : List Dd) (x : Dd) (h : x ∈ l) : x.b.length ≤ longD l := by
  unfold longD
  induction l with
  | nil => cases h
  | cons y t ih =>
    simp only [List.map_cons, List.sum_cons]
    rcases List.mem_cons.1 h with rfl | h
    · omega
    · have := ih h; omega
theorem longD_most (l : List Dd) (M : Nat) (h : ∀ x ∈ l, x.b.length ≤ M) : longD l ≤ l.length * (1 + M) := by
  unfold longD
  induction l with
  | nil => simp
  | cons y t ih =>
    simp only [List.map_cons, List.sum_cons, List.length_cons]
    have h1 := h y (by simp)
    have h2 := ih (fun x hx => h x (by simp [hx]))
    rw [Nat.succ_mul]
    omega
set_option maxHeartbeats 4000000 in
theorem long_calls (A : Option Addr) (n c : Nat) (l : List Dd) (w : World) (hr : Rc w A (dds l)) (hH : HeldD w l) (e1 : n = l.length) (hn : n ≤ 40) (hl : ∀ x ∈ l, x.b.length ≤ 140737488355328) :
    Calls Try.prog 40 #[.slice A n c] w fun e w' => e = .returned (.int .i64 (longD l : Nat)) ∧ w' = w := by
  have HR := Hd.mk hr
  have E1 := Hd.mk e1
  have HL := Hd.mk hl
  have HN := Hd.mk hn
  clear hr hH e1 hl hn
  go_enter Try.func40, Try.ntmps40
  go_wp2
  go_loopw [3, 4] (fun sv iv wr => ∃ i : Nat, iv = .int .i64 (i : Int) ∧ i ≤ n ∧ sv = .int .i64 (longD (l.take i) : Nat) ∧ wr = w) (fun _ iv _ => n - (intOf iv).toNat)
  case atStart => exact ⟨0, rfl, Nat.zero_le _, rfl, rfl⟩
  case round =>
    obtain ⟨i, rfl, hi, rfl, rfl⟩ := hrel
    by_cases hlt : i < n
    · have hil : i < l.length := by rw [← E1.out]; exact hlt
      have hil2 : (i : Int) < (n : Int) := by omega
      have hi40 : (i : Int) < 40 := by have := HN.out; omega
      obtain ⟨bb, off, rfl, hbb, hr⟩ := rcK_form dds_len (by decide) HR.out (by omega)
      have hcl := hr i hil wr (Below.refl _ _) 4 _ rfl
      have hlx := HL.out _ (List.getElem_mem hil)
      have hst := longD_snoc l i hil
      have hsm := longD_most (l.take i) 140737488355328 (fun x hx => HL.out x (List.mem_of_mem_take hx))
      obtain ⟨x, hx⟩ : ∃ x, l[i] = x := ⟨_, rfl⟩
      rw [hx] at hcl hlx hst
      obtain ⟨s, hs⟩ : ∃ s, longD (l.take i) = s := ⟨_, rfl⟩
      rw [hs] at hst hsm
      have hs40 : s ≤ 5629499534213200 := by rw [List.length_take] at hsm; have := HN.out; have : min i l.length ≤ 40 := by omega
                                             exact Nat.le_trans hsm (Nat.le_trans (Nat.mul_le_mul_right _ this) (by decide))
      have hwr1 : IntKind.i64.wrap ((s : Int) + 1) = (s : Int) + 1 := by rw [IntKind.wrap_i64]; omega
      have hwr : IntKind.i64.wrap ((s : Int) + 1 + (x.b.length : Int)) = (s : Int) + 1 + (x.b.length : Int) := by rw [IntKind.wrap_i64]; omega
      have HST := Hd.mk hst
      rw [hs]
      clear hst hsm hr hx hs
      go_wp2
      go_roundw
      case rel => exact ⟨i + 1, by go_num, by omega, by rw [HST.out]; push_cast; first | trivial | (congr 1; omega) | omega, trivial⟩
      case measure => simp [intOf]; omega
    · obtain rfl : i = n := by omega
      have e0 : l.take i = l := by rw [E1.out]; exact List.take_length
      rw [e0]
      go_wp2
      go_ret
      exact ⟨rfl, rfl⟩
set_option maxHeartbeats 4000000 in
theorem small_calls (A : Option Addr) (n c : Nat) (l : List Dd) (w : World) (hr : Rc w A (dds l)) (hH : HeldD w l) (e1 : n = l.length) (hl : ∀ x ∈ l, x.b.length ≤ 140737488355328) :
    Calls Try.prog 23 #[.slice A n c] w fun e w' => e = .returned (.bool (decide (n ≤ 40) && decide (longD l ≤ 3000))) ∧ w' = w := by
  have HR := Hd.mk hr
  have HH := Hd.mk hH
  have E1 := Hd.mk e1
  have HL := Hd.mk hl
  clear hr hH e1 hl
  by_cases h40 : n ≤ 40
  · have h41 : (n : Int) ≤ 40 := by omega
    have H40 := Hd.mk h40
    obtain ⟨q, hq⟩ : ∃ q, longD l = q := ⟨_, rfl⟩
    have HQ := Hd.mk hq
    rw [hq, decide_eq_true h40]
    clear hq h40
    go_enter Try.func23, Try.ntmps23
    go_wp2_with (go_at_call 40; refine (long_calls A n c l _ HR.out HH.out E1.out H40.out HL.out).mono ?_; rw [HQ.out]; rintro e w1 ⟨rfl, hw⟩; obtain rfl := hw.symm)
    go_ret
    refine ⟨?_, rfl⟩
    by_cases h3 : q ≤ 3000
    · simp [h3, show (q : Int) ≤ 3000 by omega]
    · simp [h3, show ¬ (q : Int) ≤ 3000 by omega]
  · have h41 : ¬ (n : Int) ≤ 40 := by omega
    rw [decide_eq_false h40]
    clear h40
    go_enter Try.func23, Try.ntmps23
    go_wp2_with fail
    go_ret
    exact ⟨by simp, rfl⟩
end Go.Proofs.Ytffhncpgknkkaaa
