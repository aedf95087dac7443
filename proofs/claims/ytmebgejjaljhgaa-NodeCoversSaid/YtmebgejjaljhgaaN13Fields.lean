/- Walks: the fields of an inode. -/
import Derived.Test.YtmebgejjaljhgaaCGet
import Derived.Test.YtmebgejjaljhgaaCRef
import Derived.Test.YtmebgejjaljhgaaCEqual
import Derived.Test.YtmebgejjaljhgaaR00Same
import Derived.Test.YtmebgejjaljhgaaR00Ints
import Derived.Test.YtmebgejjaljhgaaBase10
namespace Go.Proofs.Ytmebgejjaljhgaa
open Go.RowKit Go.Sac
set_option linter.unusedVariables false
set_option linter.unusedSimpArgs false

def fieldsOf (g : Nat) : Array Value := #[Value.pointer (some ⟨g, 0, none⟩), Value.int .i64 1, Value.int .i64 3, Value.pointer (some ⟨g, 1, none⟩), Value.int .i64 2, Value.int .i64 65535, Value.pointer (some ⟨g, 2, none⟩), Value.int .i64 4, Value.int .i64 17920, Value.pointer (some ⟨g, 3, none⟩), Value.int .i64 4, Value.int .i64 4095, Value.pointer (some ⟨g, 4, none⟩), Value.int .i64 4, Value.int .i64 4095, Value.pointer (some ⟨g, 5, none⟩), Value.int .i64 4, Value.int .i64 4095, Value.pointer (some ⟨g, 6, none⟩), Value.int .i64 4, Value.int .i64 4095, Value.pointer (some ⟨g, 7, none⟩), Value.int .i64 4, Value.int .i64 4095, Value.pointer (some ⟨g, 8, none⟩), Value.int .i64 4, Value.int .i64 4095, Value.pointer (some ⟨g, 9, none⟩), Value.int .i64 4, Value.int .i64 4095]
def FV (g p : Nat) (j : Nat) (w : World) (v : Value) : Prop :=
  match j with | 0 => v = Value.pointer (some ⟨g, 0, none⟩) | 1 => v = Value.pointer (some ⟨g, 0, none⟩) | 2 => v = Value.pointer (some ⟨g, 0, none⟩) | 3 => v = Value.agg #[Value.pointer (some ⟨g, 0, none⟩), Value.int .i64 1, Value.int .i64 3] | 4 => v = Value.pointer (some ⟨g, 0, none⟩) | 5 => v = Value.pointer (some ⟨g, 0, none⟩) | 6 => v = Value.pointer (some ⟨g, 1, none⟩) | 7 => v = Value.agg #[Value.pointer (some ⟨g, 1, none⟩), Value.int .i64 2, Value.int .i64 65535] | 8 => v = Value.pointer (some ⟨g, 0, none⟩) | 9 => v = Value.pointer (some ⟨g, 0, none⟩) | 10 => v = Value.pointer (some ⟨g, 2, none⟩) | 11 => v = Value.agg #[Value.pointer (some ⟨g, 2, none⟩), Value.int .i64 4, Value.int .i64 17920] | 12 => v = Value.pointer (some ⟨g, 0, none⟩) | 13 => v = Value.pointer (some ⟨g, 0, none⟩) | 14 => v = Value.pointer (some ⟨g, 3, none⟩) | 15 => v = Value.pointer (some ⟨g, 3, none⟩) | 16 => v = Value.agg #[Value.pointer (some ⟨g, 3, none⟩), Value.int .i64 4, Value.int .i64 4095] | 17 => v = Value.pointer (some ⟨g, 0, none⟩) | 18 => v = Value.pointer (some ⟨g, 0, none⟩) | 19 => v = Value.pointer (some ⟨g, 3, none⟩) | 20 => v = Value.pointer (some ⟨g, 4, none⟩) | 21 => v = Value.agg #[Value.pointer (some ⟨g, 4, none⟩), Value.int .i64 4, Value.int .i64 4095] | 22 => v = Value.pointer (some ⟨g, 0, none⟩) | 23 => v = Value.pointer (some ⟨g, 0, none⟩) | 24 => v = Value.pointer (some ⟨g, 3, none⟩) | 25 => v = Value.pointer (some ⟨g, 5, none⟩) | 26 => v = Value.agg #[Value.pointer (some ⟨g, 5, none⟩), Value.int .i64 4, Value.int .i64 4095] | 27 => v = Value.pointer (some ⟨g, 0, none⟩) | 28 => v = Value.pointer (some ⟨g, 0, none⟩) | 29 => v = Value.pointer (some ⟨g, 3, none⟩) | 30 => v = Value.pointer (some ⟨g, 6, none⟩) | 31 => v = Value.agg #[Value.pointer (some ⟨g, 6, none⟩), Value.int .i64 4, Value.int .i64 4095] | 32 => v = Value.pointer (some ⟨g, 0, none⟩) | 33 => v = Value.pointer (some ⟨g, 0, none⟩) | 34 => v = Value.pointer (some ⟨g, 3, none⟩) | 35 => v = Value.pointer (some ⟨g, 7, none⟩) | 36 => v = Value.agg #[Value.pointer (some ⟨g, 7, none⟩), Value.int .i64 4, Value.int .i64 4095] | 37 => v = Value.pointer (some ⟨g, 0, none⟩) | 38 => v = Value.pointer (some ⟨g, 0, none⟩) | 39 => v = Value.pointer (some ⟨g, 3, none⟩) | 40 => v = Value.pointer (some ⟨g, 8, none⟩) | 41 => v = Value.agg #[Value.pointer (some ⟨g, 8, none⟩), Value.int .i64 4, Value.int .i64 4095] | 42 => v = Value.pointer (some ⟨g, 0, none⟩) | 43 => v = Value.pointer (some ⟨g, 0, none⟩) | 44 => v = Value.pointer (some ⟨g, 9, none⟩) | 45 => v = Value.agg #[Value.pointer (some ⟨g, 9, none⟩), Value.int .i64 4, Value.int .i64 4095] | 46 => v = Value.agg (fieldsOf g) | 47 => Blk w p 63 (fieldsOf g).toList | _ => True
theorem FV_stab {g p : Nat} (i j : Nat) (w w' : World) (v : Value) (hij : i ≠ j) (hR : KeepBut (if i = 47 then some p else none) w w') (h : FV g p j w v) : FV g p j w' v := by
  rcases j with _ | _ | _ | _ | _ | _ | _ | _ | _ | _ | _ | _ | _ | _ | _ | _ | _ | _ | _ | _ | _ | _ | _ | _ | _ | _ | _ | _ | _ | _ | _ | _ | _ | _ | _ | _ | _ | _ | _ | _ | _ | _ | _ | _ | _ | _ | _ | _ | j <;> try exact h
  exact hR.blk h (by rw [if_neg hij]; simp)
theorem info_fields : (Try.prog.info? 63).map (·.size) = some 30 := by kernel_rfl
structure FG (w0 : World) (w : World) : Prop where
  bel : Below w0.heap.size w0 w
  blk : ∃ c, c.length = 30 ∧ Blk w w0.heap.size 63 c
set_option maxHeartbeats 4000000 in
theorem fields_calls (g : Nat) (w : World) :
    Calls Try.prog 29 #[.pointer (some ⟨g, 0, none⟩)] w fun e w' => e = .returned (.agg (fieldsOf g)) ∧ Below w.heap.size w w' := by
  have HG : Hd (FG w (w.alloc (.cells #[Value.pointer none, Value.int .i64 0, Value.int .i64 0, Value.pointer none, Value.int .i64 0, Value.int .i64 0, Value.pointer none, Value.int .i64 0, Value.int .i64 0, Value.pointer none, Value.int .i64 0, Value.int .i64 0, Value.pointer none, Value.int .i64 0, Value.int .i64 0, Value.pointer none, Value.int .i64 0, Value.int .i64 0, Value.pointer none, Value.int .i64 0, Value.int .i64 0, Value.pointer none, Value.int .i64 0, Value.int .i64 0, Value.pointer none, Value.int .i64 0, Value.int .i64 0, Value.pointer none, Value.int .i64 0, Value.int .i64 0] 63))) := ⟨(Below.refl _ w).alloc (Nat.le_refl _) _, _, rfl, Blk.new w 63 #[Value.pointer none, Value.int .i64 0, Value.int .i64 0, Value.pointer none, Value.int .i64 0, Value.int .i64 0, Value.pointer none, Value.int .i64 0, Value.int .i64 0, Value.pointer none, Value.int .i64 0, Value.int .i64 0, Value.pointer none, Value.int .i64 0, Value.int .i64 0, Value.pointer none, Value.int .i64 0, Value.int .i64 0, Value.pointer none, Value.int .i64 0, Value.int .i64 0, Value.pointer none, Value.int .i64 0, Value.int .i64 0, Value.pointer none, Value.int .i64 0, Value.int .i64 0, Value.pointer none, Value.int .i64 0, Value.int .i64 0].toList⟩
  go_enter Try.func29, Try.ntmps29
  go_wp2_with (fail)
  change Code.wp Try.prog _ _ _ (w.alloc (.cells #[Value.pointer none, Value.int .i64 0, Value.int .i64 0, Value.pointer none, Value.int .i64 0, Value.int .i64 0, Value.pointer none, Value.int .i64 0, Value.int .i64 0, Value.pointer none, Value.int .i64 0, Value.int .i64 0, Value.pointer none, Value.int .i64 0, Value.int .i64 0, Value.pointer none, Value.int .i64 0, Value.int .i64 0, Value.pointer none, Value.int .i64 0, Value.int .i64 0, Value.pointer none, Value.int .i64 0, Value.int .i64 0, Value.pointer none, Value.int .i64 0, Value.int .i64 0, Value.pointer none, Value.int .i64 0, Value.int .i64 0] 63))
  generalize (w.alloc (.cells #[Value.pointer none, Value.int .i64 0, Value.int .i64 0, Value.pointer none, Value.int .i64 0, Value.int .i64 0, Value.pointer none, Value.int .i64 0, Value.int .i64 0, Value.pointer none, Value.int .i64 0, Value.int .i64 0, Value.pointer none, Value.int .i64 0, Value.int .i64 0, Value.pointer none, Value.int .i64 0, Value.int .i64 0, Value.pointer none, Value.int .i64 0, Value.int .i64 0, Value.pointer none, Value.int .i64 0, Value.int .i64 0, Value.pointer none, Value.int .i64 0, Value.int .i64 0, Value.pointer none, Value.int .i64 0, Value.int .i64 0] 63)) = w0 at *
  refine region_fam (fun f => #[Value.pointer (some ⟨g, 0, none⟩), undef, Value.pointer (some ⟨w.heap.size, 0, none⟩), f 0, f 1, f 2, f 3, f 4, f 5, f 6, f 7, f 8, f 9, f 10, f 11, f 12, f 13, f 14, f 15, f 16, f 17, f 18, f 19, f 20, f 21, f 22, f 23, f 24, f 25, f 26, f 27, f 28, f 29, f 30, f 31, f 32, f 33, f 34, f 35, f 36, f 37, f 38, f 39, f 40, f 41, f 42, f 43, f 44, f 45, f 46])
    (FV g w.heap.size) (FG w) (fun i => KeepBut (if i = 47 then some w.heap.size else none)) (by kernel_rfl) (by kernel_rfl) (fun _ => undef) rfl ⟨HG.out.bel.drew, HG.out.blk⟩ FV_stab ?put ?step ?fin
  case put =>
    intro i o ho f v
    rcases i with _ | _ | _ | _ | _ | _ | _ | _ | _ | _ | _ | _ | _ | _ | _ | _ | _ | _ | _ | _ | _ | _ | _ | _ | _ | _ | _ | _ | _ | _ | _ | _ | _ | _ | _ | _ | _ | _ | _ | _ | _ | _ | _ | _ | _ | _ | _ | _ | i
    all_goals first | (injection ho with ho; subst ho; rfl) | (cases ho)
  case step =>
    intro i o ho f w1 hG hp
    rcases i with _ | _ | _ | _ | _ | _ | _ | _ | _ | _ | _ | _ | _ | _ | _ | _ | _ | _ | _ | _ | _ | _ | _ | _ | _ | _ | _ | _ | _ | _ | _ | _ | _ | _ | _ | _ | _ | _ | _ | _ | _ | _ | _ | _ | _ | _ | _ | _ | i
    · injection ho with ho; subst ho
      refine wpOp_go rfl rfl ?_
      go_simp
      first | exact ⟨hG, .refl _ _, rfl⟩ | exact ⟨.refl _ _, rfl⟩
    · injection ho with ho; subst ho
      have h0 : f 0 = _ := hp ⟨0, .data⟩ (by simp) rfl
      simp only [h0]
      refine wpOp_go rfl rfl ?_
      go_simp
      first | exact ⟨hG, .refl _ _, rfl⟩ | exact ⟨.refl _ _, rfl⟩
    · injection ho with ho; subst ho
      have h1 : f 1 = _ := hp ⟨1, .data⟩ (by simp) rfl
      simp only [h1]
      refine wpOp_go rfl rfl ?_
      go_simp
      first | exact ⟨hG, .refl _ _, rfl⟩ | exact ⟨.refl _ _, rfl⟩
    · injection ho with ho; subst ho
      have h2 : f 2 = _ := hp ⟨2, .data⟩ (by simp) rfl
      simp only [h2]
      refine wpOp_go rfl rfl ?_
      go_simp
      first | exact ⟨hG, .refl _ _, rfl⟩ | exact ⟨.refl _ _, rfl⟩
    · injection ho with ho; subst ho
      refine wpOp_go rfl rfl ?_
      go_simp
      first | exact ⟨hG, .refl _ _, rfl⟩ | exact ⟨.refl _ _, rfl⟩
    · injection ho with ho; subst ho
      have h4 : f 4 = _ := hp ⟨4, .data⟩ (by simp) rfl
      simp only [h4]
      refine wpOp_go rfl rfl ?_
      go_simp
      first | exact ⟨hG, .refl _ _, rfl⟩ | exact ⟨.refl _ _, rfl⟩
    · injection ho with ho; subst ho
      have h5 : f 5 = _ := hp ⟨5, .data⟩ (by simp) rfl
      simp only [h5]
      refine wpOp_go rfl rfl ?_
      go_simp
      first | exact ⟨hG, .refl _ _, rfl⟩ | exact ⟨.refl _ _, rfl⟩
    · injection ho with ho; subst ho
      have h6 : f 6 = _ := hp ⟨6, .data⟩ (by simp) rfl
      simp only [h6]
      refine wpOp_go rfl rfl ?_
      go_simp
      first | exact ⟨hG, .refl _ _, rfl⟩ | exact ⟨.refl _ _, rfl⟩
    · injection ho with ho; subst ho
      refine wpOp_go rfl rfl ?_
      go_simp
      first | exact ⟨hG, .refl _ _, rfl⟩ | exact ⟨.refl _ _, rfl⟩
    · injection ho with ho; subst ho
      have h8 : f 8 = _ := hp ⟨8, .data⟩ (by simp) rfl
      simp only [h8]
      refine wpOp_go rfl rfl ?_
      go_simp
      first | exact ⟨hG, .refl _ _, rfl⟩ | exact ⟨.refl _ _, rfl⟩
    · injection ho with ho; subst ho
      have h9 : f 9 = _ := hp ⟨9, .data⟩ (by simp) rfl
      simp only [h9]
      refine wpOp_go rfl rfl ?_
      go_simp
      first | exact ⟨hG, .refl _ _, rfl⟩ | exact ⟨.refl _ _, rfl⟩
    · injection ho with ho; subst ho
      have h10 : f 10 = _ := hp ⟨10, .data⟩ (by simp) rfl
      simp only [h10]
      refine wpOp_go rfl rfl ?_
      go_simp
      first | exact ⟨hG, .refl _ _, rfl⟩ | exact ⟨.refl _ _, rfl⟩
    · injection ho with ho; subst ho
      refine wpOp_go rfl rfl ?_
      go_simp
      first | exact ⟨hG, .refl _ _, rfl⟩ | exact ⟨.refl _ _, rfl⟩
    · injection ho with ho; subst ho
      have h12 : f 12 = _ := hp ⟨12, .data⟩ (by simp) rfl
      simp only [h12]
      refine wpOp_go rfl rfl ?_
      go_simp
      first | exact ⟨hG, .refl _ _, rfl⟩ | exact ⟨.refl _ _, rfl⟩
    · injection ho with ho; subst ho
      have h13 : f 13 = _ := hp ⟨13, .data⟩ (by simp) rfl
      simp only [h13]
      refine wpOp_go rfl rfl ?_
      go_simp
      first | exact ⟨hG, .refl _ _, rfl⟩ | exact ⟨.refl _ _, rfl⟩
    · injection ho with ho; subst ho
      have h14 : f 14 = _ := hp ⟨14, .data⟩ (by simp) rfl
      simp only [h14]
      refine wpOp_go rfl rfl ?_
      go_simp
      first | exact ⟨hG, .refl _ _, rfl⟩ | exact ⟨.refl _ _, rfl⟩
    · injection ho with ho; subst ho
      have h15 : f 15 = _ := hp ⟨15, .data⟩ (by simp) rfl
      simp only [h15]
      refine wpOp_go rfl rfl ?_
      go_simp
      first | exact ⟨hG, .refl _ _, rfl⟩ | exact ⟨.refl _ _, rfl⟩
    · injection ho with ho; subst ho
      refine wpOp_go rfl rfl ?_
      go_simp
      first | exact ⟨hG, .refl _ _, rfl⟩ | exact ⟨.refl _ _, rfl⟩
    · injection ho with ho; subst ho
      have h17 : f 17 = _ := hp ⟨17, .data⟩ (by simp) rfl
      simp only [h17]
      refine wpOp_go rfl rfl ?_
      go_simp
      first | exact ⟨hG, .refl _ _, rfl⟩ | exact ⟨.refl _ _, rfl⟩
    · injection ho with ho; subst ho
      have h18 : f 18 = _ := hp ⟨18, .data⟩ (by simp) rfl
      simp only [h18]
      refine wpOp_go rfl rfl ?_
      go_simp
      first | exact ⟨hG, .refl _ _, rfl⟩ | exact ⟨.refl _ _, rfl⟩
    · injection ho with ho; subst ho
      have h19 : f 19 = _ := hp ⟨19, .data⟩ (by simp) rfl
      simp only [h19]
      refine wpOp_go rfl rfl ?_
      go_simp
      first | exact ⟨hG, .refl _ _, rfl⟩ | exact ⟨.refl _ _, rfl⟩
    · injection ho with ho; subst ho
      have h20 : f 20 = _ := hp ⟨20, .data⟩ (by simp) rfl
      simp only [h20]
      refine wpOp_go rfl rfl ?_
      go_simp
      first | exact ⟨hG, .refl _ _, rfl⟩ | exact ⟨.refl _ _, rfl⟩
    · injection ho with ho; subst ho
      refine wpOp_go rfl rfl ?_
      go_simp
      first | exact ⟨hG, .refl _ _, rfl⟩ | exact ⟨.refl _ _, rfl⟩
    · injection ho with ho; subst ho
      have h22 : f 22 = _ := hp ⟨22, .data⟩ (by simp) rfl
      simp only [h22]
      refine wpOp_go rfl rfl ?_
      go_simp
      first | exact ⟨hG, .refl _ _, rfl⟩ | exact ⟨.refl _ _, rfl⟩
    · injection ho with ho; subst ho
      have h23 : f 23 = _ := hp ⟨23, .data⟩ (by simp) rfl
      simp only [h23]
      refine wpOp_go rfl rfl ?_
      go_simp
      first | exact ⟨hG, .refl _ _, rfl⟩ | exact ⟨.refl _ _, rfl⟩
    · injection ho with ho; subst ho
      have h24 : f 24 = _ := hp ⟨24, .data⟩ (by simp) rfl
      simp only [h24]
      refine wpOp_go rfl rfl ?_
      go_simp
      first | exact ⟨hG, .refl _ _, rfl⟩ | exact ⟨.refl _ _, rfl⟩
    · injection ho with ho; subst ho
      have h25 : f 25 = _ := hp ⟨25, .data⟩ (by simp) rfl
      simp only [h25]
      refine wpOp_go rfl rfl ?_
      go_simp
      first | exact ⟨hG, .refl _ _, rfl⟩ | exact ⟨.refl _ _, rfl⟩
    · injection ho with ho; subst ho
      refine wpOp_go rfl rfl ?_
      go_simp
      first | exact ⟨hG, .refl _ _, rfl⟩ | exact ⟨.refl _ _, rfl⟩
    · injection ho with ho; subst ho
      have h27 : f 27 = _ := hp ⟨27, .data⟩ (by simp) rfl
      simp only [h27]
      refine wpOp_go rfl rfl ?_
      go_simp
      first | exact ⟨hG, .refl _ _, rfl⟩ | exact ⟨.refl _ _, rfl⟩
    · injection ho with ho; subst ho
      have h28 : f 28 = _ := hp ⟨28, .data⟩ (by simp) rfl
      simp only [h28]
      refine wpOp_go rfl rfl ?_
      go_simp
      first | exact ⟨hG, .refl _ _, rfl⟩ | exact ⟨.refl _ _, rfl⟩
    · injection ho with ho; subst ho
      have h29 : f 29 = _ := hp ⟨29, .data⟩ (by simp) rfl
      simp only [h29]
      refine wpOp_go rfl rfl ?_
      go_simp
      first | exact ⟨hG, .refl _ _, rfl⟩ | exact ⟨.refl _ _, rfl⟩
    · injection ho with ho; subst ho
      have h30 : f 30 = _ := hp ⟨30, .data⟩ (by simp) rfl
      simp only [h30]
      refine wpOp_go rfl rfl ?_
      go_simp
      first | exact ⟨hG, .refl _ _, rfl⟩ | exact ⟨.refl _ _, rfl⟩
    · injection ho with ho; subst ho
      refine wpOp_go rfl rfl ?_
      go_simp
      first | exact ⟨hG, .refl _ _, rfl⟩ | exact ⟨.refl _ _, rfl⟩
    · injection ho with ho; subst ho
      have h32 : f 32 = _ := hp ⟨32, .data⟩ (by simp) rfl
      simp only [h32]
      refine wpOp_go rfl rfl ?_
      go_simp
      first | exact ⟨hG, .refl _ _, rfl⟩ | exact ⟨.refl _ _, rfl⟩
    · injection ho with ho; subst ho
      have h33 : f 33 = _ := hp ⟨33, .data⟩ (by simp) rfl
      simp only [h33]
      refine wpOp_go rfl rfl ?_
      go_simp
      first | exact ⟨hG, .refl _ _, rfl⟩ | exact ⟨.refl _ _, rfl⟩
    · injection ho with ho; subst ho
      have h34 : f 34 = _ := hp ⟨34, .data⟩ (by simp) rfl
      simp only [h34]
      refine wpOp_go rfl rfl ?_
      go_simp
      first | exact ⟨hG, .refl _ _, rfl⟩ | exact ⟨.refl _ _, rfl⟩
    · injection ho with ho; subst ho
      have h35 : f 35 = _ := hp ⟨35, .data⟩ (by simp) rfl
      simp only [h35]
      refine wpOp_go rfl rfl ?_
      go_simp
      first | exact ⟨hG, .refl _ _, rfl⟩ | exact ⟨.refl _ _, rfl⟩
    · injection ho with ho; subst ho
      refine wpOp_go rfl rfl ?_
      go_simp
      first | exact ⟨hG, .refl _ _, rfl⟩ | exact ⟨.refl _ _, rfl⟩
    · injection ho with ho; subst ho
      have h37 : f 37 = _ := hp ⟨37, .data⟩ (by simp) rfl
      simp only [h37]
      refine wpOp_go rfl rfl ?_
      go_simp
      first | exact ⟨hG, .refl _ _, rfl⟩ | exact ⟨.refl _ _, rfl⟩
    · injection ho with ho; subst ho
      have h38 : f 38 = _ := hp ⟨38, .data⟩ (by simp) rfl
      simp only [h38]
      refine wpOp_go rfl rfl ?_
      go_simp
      first | exact ⟨hG, .refl _ _, rfl⟩ | exact ⟨.refl _ _, rfl⟩
    · injection ho with ho; subst ho
      have h39 : f 39 = _ := hp ⟨39, .data⟩ (by simp) rfl
      simp only [h39]
      refine wpOp_go rfl rfl ?_
      go_simp
      first | exact ⟨hG, .refl _ _, rfl⟩ | exact ⟨.refl _ _, rfl⟩
    · injection ho with ho; subst ho
      have h40 : f 40 = _ := hp ⟨40, .data⟩ (by simp) rfl
      simp only [h40]
      refine wpOp_go rfl rfl ?_
      go_simp
      first | exact ⟨hG, .refl _ _, rfl⟩ | exact ⟨.refl _ _, rfl⟩
    · injection ho with ho; subst ho
      refine wpOp_go rfl rfl ?_
      go_simp
      first | exact ⟨hG, .refl _ _, rfl⟩ | exact ⟨.refl _ _, rfl⟩
    · injection ho with ho; subst ho
      have h42 : f 42 = _ := hp ⟨42, .data⟩ (by simp) rfl
      simp only [h42]
      refine wpOp_go rfl rfl ?_
      go_simp
      first | exact ⟨hG, .refl _ _, rfl⟩ | exact ⟨.refl _ _, rfl⟩
    · injection ho with ho; subst ho
      have h43 : f 43 = _ := hp ⟨43, .data⟩ (by simp) rfl
      simp only [h43]
      refine wpOp_go rfl rfl ?_
      go_simp
      first | exact ⟨hG, .refl _ _, rfl⟩ | exact ⟨.refl _ _, rfl⟩
    · injection ho with ho; subst ho
      have h44 : f 44 = _ := hp ⟨44, .data⟩ (by simp) rfl
      simp only [h44]
      refine wpOp_go rfl rfl ?_
      go_simp
      first | exact ⟨hG, .refl _ _, rfl⟩ | exact ⟨.refl _ _, rfl⟩
    · injection ho with ho; subst ho
      have h3 : f 3 = _ := hp ⟨3, .data⟩ (by simp) rfl
      have h7 : f 7 = _ := hp ⟨7, .data⟩ (by simp) rfl
      have h11 : f 11 = _ := hp ⟨11, .data⟩ (by simp) rfl
      have h16 : f 16 = _ := hp ⟨16, .data⟩ (by simp) rfl
      have h21 : f 21 = _ := hp ⟨21, .data⟩ (by simp) rfl
      have h26 : f 26 = _ := hp ⟨26, .data⟩ (by simp) rfl
      have h31 : f 31 = _ := hp ⟨31, .data⟩ (by simp) rfl
      have h36 : f 36 = _ := hp ⟨36, .data⟩ (by simp) rfl
      have h41 : f 41 = _ := hp ⟨41, .data⟩ (by simp) rfl
      have h45 : f 45 = _ := hp ⟨45, .data⟩ (by simp) rfl
      simp only [h3, h7, h11, h16, h21, h26, h31, h36, h41, h45]
      refine wpOp_go rfl rfl ?_
      go_simp
      first | exact ⟨hG, .refl _ _, rfl⟩ | exact ⟨.refl _ _, rfl⟩
    · injection ho with ho; subst ho
      have h46 : f 46 = _ := hp ⟨46, .data⟩ (by simp) rfl
      simp only [h46]
      obtain ⟨c, hc, hb⟩ := hG.blk
      refine wpOp_go rfl rfl (wp_store_row 63 (.tmp 2) (.tmp 49) rfl w.heap.size (fieldsOf g) rfl rfl 63 _ hb (info_fields.trans (by simp [fieldsOf])) (by simp [fieldsOf, hc]) (by simp [fieldsOf, Value.oneCell']) ?_)
      exact ⟨undef, rfl, ⟨below_row hG.bel (Nat.le_refl _) _, _, by simp [fieldsOf], hb.putRow (fieldsOf g).toList⟩, KeepBut.row w1 _ _, hb.putRow (fieldsOf g).toList⟩
    · cases ho
  case fin =>
    intro f w1 hG hV
    have hb : Blk w1 w.heap.size 63 (fieldsOf g).toList := hV 47 (by simp)
    go_wp2_with (fail)
    refine bodyPost_ret (results_cell_row rfl _ _ w.heap.size 63 (fieldsOf g) (0, 0) _ rfl hb Try.underlying63 rfl (info_fields.trans (by simp [fieldsOf]))) rfl ?_
    exact ⟨rfl, hG.bel⟩
end Go.Proofs.Ytmebgejjaljhgaa
