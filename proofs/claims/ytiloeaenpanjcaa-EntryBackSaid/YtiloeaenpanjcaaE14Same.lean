/- Walks: whether two rows of entries are the same; how many bytes they have. -/
import Derived.Test.YtiloeaenpanjcaaE14Put2
namespace Go.Proofs.Ytiloeaenpanjcaa
open Go.RowKit Go.Sac
set_option linter.unusedVariables false
set_option linter.unusedSimpArgs false

section
variable {P : Program} {o : Oper} {a : Act} {w : World} {K : Act → World → Prop} {Q : Exit → Act → World → Prop}
theorem wp_neq (r : Bool) (t rt : TypeId) (x y : Operand) (ho : o.op = .binOp .neq t x y rt) (xs ys : Array Value) (hx : a.eval x = .agg xs) (hy : a.eval y = .agg ys)
    (hg : P.eqGuardType P.depth t = false) (h : (Op.equalIn 10000 t (.agg xs) (.agg ys)).run P w = .ok r w) (hk : K (a.put o.dst (.bool (!r))) w) : o.wp P a w K Q := by
  unfold Oper.wp execOp
  simp only [ho, hx, hy, Sem.run_bind, run_eqGuard_agg w .neq t x y xs ys hg, run_neq_struct w t xs ys, h, Result.andThen_ok, Sem.run_pure]
  exact hk
end
theorem ba_eq (a b : ByteArray) : (a.toList == b.toList) = decide (a = b) := by
  rw [Bool.eq_iff_iff, beq_iff_eq, decide_eq_true_eq, ByteArray.toList_eq, ByteArray.toList_eq]
  constructor
  · intro h
    cases a; cases b
    congr 1
    exact Array.toList_inj.1 h
  · intro h; rw [h]
theorem eq_ent (x y : Ent) (w : World) : (Op.equalIn 10000 31 (.agg (ecs x).toArray) (.agg (ecs y).toArray)).run Try.prog w = .ok (decide (x = y)) w := by
  obtain ⟨a0, a1⟩ := x
  obtain ⟨b0, b1⟩ := y
  rw [run_equalIn_struct (P := Try.prog) w 9999 31 _ _ (by kernel_rfl) (by kernel_rfl)]
  have hf : Try.prog.fieldsOf 31 = #[{ name := "Name", type := 9, offset := 0, embedded := false, tag := "", pkgPath := "", byteOffset := 0 },
        { name := "Node", type := 3, offset := 1, embedded := false, tag := "", pkgPath := "", byteOffset := 16 }] := by kernel_rfl
  rw [hf]
  have e1 : (Op.equalIn 9999 3 (.int .i64 a1) (.int .i64 b1)).run Try.prog w = .ok (a1 == b1) w := run_equalIn_int _ _ _ _ _ _ _ Try.underlying3
  have e0 : (Op.equalIn 9999 9 (.string a0) (.string b0)).run Try.prog w = .ok (decide (a0 = b0)) w := by
    rw [← ba_eq]
    exact run_equalIn_string _ _ _ _ _ Try.underlying9
  have e3 : decide ((a0, a1) = (b0, b1)) = (decide (a0 = b0) && (a1 == b1)) := by
    rw [Bool.eq_iff_iff]; simp
  rw [e3]
  simp [Op.eqFields, part, ecs, Sem.run_bind, Try.isAgg3, Try.isAgg9, e0, e1, Result.andThen]
  by_cases h0 : a0 = b0 <;> cases h1 : (a1 == b1) <;> simp_all
theorem rc_ent {w : World} {A : Option Addr} {l : List Ent} (h : Rc w A (ens l)) (h0 : 0 < l.length) : ∃ b off, A = some ⟨b, off, none⟩ ∧ b < w.heap.size ∧ ∀ k, (hk : k < l.length) → w.rangeAt b (off + k * 2) (ecs l[k]) := by
  obtain ⟨b, off, hA, hb, hr⟩ := rcK_form ecs_len (by decide) h h0
  exact ⟨b, off, hA, hb, fun k hk => hr k hk w (Below.refl _ _)⟩
def SV (A B : Option Addr) (n c d k b1 o1 b2 o2 : Nat) (x y : Ent) (j : Nat) (w : World) (v : Value) : Prop :=
  match j with
  | 0 => v = .slice A n c
  | 1 => v = .int .i64 k
  | 2 => v = .pointer (some ⟨b1, o1 + k * 2, none⟩)
  | 3 => v = .agg (ecs x).toArray
  | 4 => v = .slice B n d
  | 5 => v = .int .i64 k
  | 6 => v = .pointer (some ⟨b2, o2 + k * 2, none⟩)
  | 7 => v = .agg (ecs y).toArray
  | 8 => v = .bool (!(decide (x = y)))
  | _ => True
theorem SV_stab {A B : Option Addr} {n c d k b1 o1 b2 o2 : Nat} {x y : Ent} (i j : Nat) (w w' : World) (v : Value) (h : SV A B n c d k b1 o1 b2 o2 x y j w v) : SV A B n c d k b1 o1 b2 o2 x y j w' v := by
  rcases j with _ | _ | _ | _ | _ | _ | _ | _ | _ | j <;> exact h
set_option maxHeartbeats 4000000 in
theorem ents_same (A B : Option Addr) (c d : Nat) (l m : List Ent) (w : World) (hl : Rc w A (ens l)) (hm : Rc w B (ens m)) (hn : l.length ≤ 140737488351232) :
    Calls Try.prog 15 #[.slice A l.length c, .slice B m.length d] w fun e w' => e = .returned (.bool (decide (l = m))) ∧ Below w.heap.size w w' := by
  by_cases hlen : l.length = m.length
  · have c1 : ((l.length : Int) != (m.length : Int)) = false := by simp; omega
    obtain ⟨n, hn1⟩ : ∃ n, l.length = n := ⟨_, rfl⟩
    have hn2 : m.length = n := by omega
    rw [hn1, hn2]
    rw [hn1, hn2] at c1
    rw [hn1] at hn
    have HL := Hd.mk hl
    have HM := Hd.mk hm
    have H1 := Hd.mk hn1
    have H2 := Hd.mk hn2
    clear hl hm hn1 hn2 hlen
    go_enter Try.func15, Try.ntmps15
    go_wp2
    go_loopw [5] (fun i wr => ∃ k : Nat, k ≤ n ∧ i = .int .i64 k ∧ Hd (Below w.heap.size w wr) ∧ Hd (l.take k = m.take k)) (fun i _ => n - (intOf i).toNat)
    case atStart => exact ⟨0, by omega, rfl, ⟨Below.refl _ _⟩, ⟨rfl⟩⟩
    case round =>
      obtain ⟨k, hk, rfl, HB, HT⟩ := hrel
      by_cases hlt : k < n
      · have hk1 : k < l.length := by rw [H1.out]; exact hlt
        have hk2 : k < m.length := by rw [H2.out]; exact hlt
        obtain ⟨b1, o1, rfl, hb1, hr1⟩ := rc_ent HL.out (by omega)
        obtain ⟨b2, o2, rfl, hb2, hr2⟩ := rc_ent HM.out (by omega)
        have hx0 := hr1 k hk1
        have hy0 := hr2 k hk2
        obtain ⟨x, hx⟩ : ∃ x, l[k] = x := ⟨_, rfl⟩
        obtain ⟨y, hy⟩ : ∃ y, m[k] = y := ⟨_, rfl⟩
        rw [hx] at hx0
        rw [hy] at hy0
        have HX0 : Hd (∀ W, Below w.heap.size w W → W.rangeAt b1 (o1 + k * 2) (ecs x)) := ⟨fun W h j v hj => (h.cell (p := ⟨b1, o1 + k * 2 + j, none⟩) hb1).trans (hx0 j v hj)⟩
        have HY0 : Hd (∀ W, Below w.heap.size w W → W.rangeAt b2 (o2 + k * 2) (ecs y)) := ⟨fun W h j v hj => (h.cell (p := ⟨b2, o2 + k * 2 + j, none⟩) hb2).trans (hy0 j v hj)⟩
        have HXY : Hd (∀ (h1 : k < l.length) (h2 : k < m.length), l[k] = x ∧ m[k] = y) := ⟨fun _ _ => ⟨hx, hy⟩⟩
        clear hx hy hx0 hy0 hr1 hr2 hb1 hb2 hk1 hk2
        go_wp2
        refine region_fam (fun f => #[Value.slice (some ⟨b1, o1, none⟩) n c, Value.slice (some ⟨b2, o2, none⟩) n d, undef, undef, u4, Value.int .i64 k, Value.slice (some ⟨b1, o1, none⟩) n c, Value.int .i64 n, Value.slice (some ⟨b2, o2, none⟩) n d, Value.int .i64 n, Value.bool false, Value.int .i64 k, Value.slice (some ⟨b1, o1, none⟩) n c, Value.int .i64 n, Value.bool true, u15, u16, f 0, f 1, f 2, f 3, f 4, f 5, f 6, f 7, f 8])
          (SV (some ⟨b1, o1, none⟩) (some ⟨b2, o2, none⟩) n c d k b1 o1 b2 o2 x y) (fun W => Below w.heap.size w W) (fun _ _ _ => True) (by kernel_rfl) (by kernel_rfl)
          (fun i => if i = 0 then u17 else if i = 1 then u18 else if i = 2 then u19 else if i = 3 then u20 else if i = 4 then u21 else if i = 5 then u22 else if i = 6 then u23 else if i = 7 then u24 else if i = 8 then u25 else undef) rfl HB.out.drew (fun i j w w' v _ _ h => SV_stab i j w w' v h) ?put ?step ?fin
        case put =>
          intro i o ho f v
          rcases i with _ | _ | _ | _ | _ | _ | _ | _ | _ | i
          all_goals first | (injection ho with ho; subst ho; rfl) | (cases ho)
        case step =>
          intro i o ho f w6 hG hp
          have hkn : (k : Int) < n := by omega
          rcases i with _ | _ | _ | _ | _ | _ | _ | _ | _ | i
          · injection ho with ho; subst ho
            refine wpOp_go rfl rfl ?_
            go_simp
            first | exact ⟨hG, trivial, rfl⟩ | exact ⟨hG, rfl⟩ | exact rfl
          · injection ho with ho; subst ho
            refine wpOp_go rfl rfl ?_
            go_simp
            first | exact ⟨hG, trivial, rfl⟩ | exact ⟨hG, rfl⟩ | exact rfl
          · injection ho with ho; subst ho
            have h0 : f 0 = _ := hp ⟨0, .data⟩ (by simp) rfl
            have h1 : f 1 = _ := hp ⟨1, .data⟩ (by simp) rfl
            simp only [h0, h1]
            refine wpOp_go rfl rfl ?_
            go_simp
            first | exact ⟨hG, trivial, rfl⟩ | exact ⟨hG, rfl⟩ | exact rfl
          · injection ho with ho; subst ho
            have h2 : f 2 = _ := hp ⟨2, .data⟩ (by simp) rfl
            simp only [h2]
            refine wpOp_go rfl rfl (wp_ldmid 31 _ rfl _ _ rfl _ _ (HX0.out _ hG) Try.underlying31 rfl (ent_info.trans rfl) ?_)
            exact ⟨_, rfl, hG, trivial, rfl⟩
          · injection ho with ho; subst ho
            refine wpOp_go rfl rfl ?_
            go_simp
            first | exact ⟨hG, trivial, rfl⟩ | exact ⟨hG, rfl⟩ | exact rfl
          · injection ho with ho; subst ho
            refine wpOp_go rfl rfl ?_
            go_simp
            first | exact ⟨hG, trivial, rfl⟩ | exact ⟨hG, rfl⟩ | exact rfl
          · injection ho with ho; subst ho
            have h4 : f 4 = _ := hp ⟨4, .data⟩ (by simp) rfl
            have h5 : f 5 = _ := hp ⟨5, .data⟩ (by simp) rfl
            simp only [h4, h5]
            refine wpOp_go rfl rfl ?_
            go_simp
            first | exact ⟨hG, trivial, rfl⟩ | exact ⟨hG, rfl⟩ | exact rfl
          · injection ho with ho; subst ho
            have h6 : f 6 = _ := hp ⟨6, .data⟩ (by simp) rfl
            simp only [h6]
            refine wpOp_go rfl rfl (wp_ldmid 31 _ rfl _ _ rfl _ _ (HY0.out _ hG) Try.underlying31 rfl (ent_info.trans rfl) ?_)
            exact ⟨_, rfl, hG, trivial, rfl⟩
          · injection ho with ho; subst ho
            have h3 : f 3 = _ := hp ⟨3, .data⟩ (by simp) rfl
            have h7 : f 7 = _ := hp ⟨7, .data⟩ (by simp) rfl
            simp only [h3, h7]
            refine wpOp_go rfl rfl (wp_neq (decide (x = y)) 31 _ (.tmp 20) (.tmp 24) rfl (ecs x).toArray (ecs y).toArray rfl rfl (by kernel_rfl) (eq_ent x y _) ?_)
            exact ⟨_, rfl, hG, trivial, rfl⟩
          · cases ho
        case fin =>
          intro f w6 hG hV
          have h8 : f 8 = _ := hV 8 (by simp)
          simp only [h8]
          have HB6 := Hd.mk hG
          clear hG hV h8
          cases he : decide (x = y)
          · have HNE : Hd (decide (l = m) = false) := ⟨by
              apply decide_eq_false
              intro e
              have hk1 : k < l.length := by rw [H1.out]; exact hlt
              have hk2 : k < m.length := by rw [H2.out]; exact hlt
              obtain ⟨e1, e2⟩ := HXY.out hk1 hk2
              have : x = y := by rw [← e1, ← e2]; simp only [e]
              rw [this] at he
              simp at he⟩
            clear he
            go_wp2
            go_ret
            exact ⟨by rw [HNE.out]; rfl, HB6.out⟩
          · have HEQ : Hd (x = y) := ⟨of_decide_eq_true he⟩
            clear he
            go_wp2
            go_roundw
            case rel =>
              refine ⟨k + 1, by omega, by go_num, HB6, ⟨?_⟩⟩
              have hk1 : k < l.length := by rw [H1.out]; exact hlt
              have hk2 : k < m.length := by rw [H2.out]; exact hlt
              obtain ⟨e1, e2⟩ := HXY.out hk1 hk2
              rw [List.take_succ_eq_append_getElem hk1, List.take_succ_eq_append_getElem hk2, HT.out, e1, e2, HEQ.out]
            case measure => simp [intOf]; omega
      · obtain rfl : k = n := by omega
        have hE : Hd (decide (l = m) = true) := ⟨by
          have := HT.out
          rw [List.take_of_length_le (Nat.le_of_eq H1.out), List.take_of_length_le (Nat.le_of_eq H2.out)] at this
          rw [this]; simp⟩
        go_wp2
        go_ret
        exact ⟨by rw [hE.out]; rfl, HB.out⟩
  · have c1 : ((l.length : Int) != (m.length : Int)) = true := by simp; omega
    have HNE : Hd (decide (l = m) = false) := ⟨by apply decide_eq_false; rintro rfl; exact hlen rfl⟩
    clear hlen
    go_enter Try.func15, Try.ntmps15
    go_wp2
    go_ret
    exact ⟨by rw [HNE.out]; rfl, Below.refl _ _⟩
end Go.Proofs.Ytiloeaenpanjcaa
