/- Walks: whether two rows of spans are the same. -/
import Derived.Test.YtmebgejjaljhgaaN13RefSpans
namespace Go.Proofs.Ytmebgejjaljhgaa
open Go.RowKit Go.Sac
set_option linter.unusedVariables false
set_option linter.unusedSimpArgs false

section
variable {P : Program} {o : Oper} {a : Act} {w : World} {K : Act → World → Prop} {Q : Exit → Act → World → Prop}
theorem wp_load_mid (ty : TypeId) (x : Operand) (ho : o.op = .load ty x) (g off : Nat) (hx : a.eval x = .pointer (some ⟨g, off, none⟩)) (cs : List Value) (d : TypeDesc) (hr : w.rangeAt g off cs)
    (hu : P.underlying ty = some d) (hd : d.isRow = true) (hi : (P.info? ty).map (·.size) = some cs.length) (h : K (a.put o.dst (.agg cs.toArray)) w) : o.wp P a w K Q := by
  have := run_loadAt_mid (P := P) w g off ty cs d hr hu hd hi
  unfold Oper.wp execOp
  simp only [ho, hx]
  rw [Sem.run_bind, this]
  exact h
theorem wp_neq (r : Bool) (t rt : TypeId) (x y : Operand) (ho : o.op = .binOp .neq t x y rt) (xs ys : Array Value) (hx : a.eval x = .agg xs) (hy : a.eval y = .agg ys)
    (hg : P.eqGuardType P.depth t = false) (h : (Op.equalIn 10000 t (.agg xs) (.agg ys)).run P w = .ok r w) (hk : K (a.put o.dst (.bool (!r))) w) : o.wp P a w K Q := by
  unfold Oper.wp execOp
  simp only [ho, hx, hy, Sem.run_bind, run_eqGuard_agg w .neq t x y xs ys hg, run_neq_struct w t xs ys, h, Result.andThen_ok, Sem.run_pure]
  exact hk
end
theorem spn_info : (Try.prog.info? 40).map (·.size) = some 3 := by kernel_rfl
theorem eq_span (x y : Spn) (w : World) : (Op.equalIn 10000 40 (.agg (spv x).toArray) (.agg (spv y).toArray)).run Try.prog w = .ok (x == y) w := by
  obtain ⟨a0, a1, a2⟩ := x
  obtain ⟨b0, b1, b2⟩ := y
  rw [run_equalIn_struct (P := Try.prog) w 9999 40 _ _ (by kernel_rfl) (by kernel_rfl)]
  have hf : Try.prog.fieldsOf 40 = #[{ name := "Block", type := 3, offset := 0, embedded := false, tag := "", pkgPath := "", byteOffset := 0 },
        { name := "From", type := 3, offset := 1, embedded := false, tag := "", pkgPath := "", byteOffset := 8 },
        { name := "To", type := 3, offset := 2, embedded := false, tag := "", pkgPath := "", byteOffset := 16 }] := by kernel_rfl
  rw [hf]
  have e : ∀ (x y : Nat) (w : World), (Op.equalIn 9999 3 (.int .i64 (x : Int)) (.int .i64 (y : Int))).run Try.prog w = .ok (x == y) w := fun x y w => by
    rw [run_equalIn_int _ _ _ _ _ _ _ Try.underlying3]
    congr 1
    rw [Bool.eq_iff_iff, beq_iff_eq, beq_iff_eq]
    omega
  simp only [Op.eqFields, part, spv, Sem.run_bind, Try.isAgg3, Result.andThen_ok, Sem.run_pure]
  have e3 : ((a0, a1, a2) == (b0, b1, b2)) = ((a0 == b0) && ((a1 == b1) && (a2 == b2))) := rfl
  rw [e3]
  simp [e, Result.andThen, Sem.run_bind]
  cases h0 : (a0 == b0) <;> cases h1 : (a1 == b1) <;> cases h2 : (a2 == b2) <;> simp_all
theorem spc_at (l : List Spn) (k : Nat) (h : k < l.length) (i : Nat) (hi : i < 3) : (spc l)[k * 3 + i]? = (spv l[k])[i]? := by
  have e : l = l.take k ++ ([l[k]] ++ l.drop (k + 1)) := by
    rw [List.singleton_append, ← List.drop_eq_getElem_cons h, List.take_append_drop]
  have hl : (spc (l.take k)).length = k * 3 := by rw [spc_len, List.length_take, Nat.min_eq_left (by omega)]
  have e2 : spc l = spc (l.take k) ++ (spv l[k] ++ spc (l.drop (k + 1))) := by
    conv => lhs; rw [e]
    rw [spc_app, spc_app, spc_single]
  rw [e2, List.getElem?_append_right (by omega), hl, show k * 3 + i - k * 3 = i by omega, List.getElem?_append_left (by show i < 3; exact hi)]
theorem rc_span0 {w : World} {b off : Nat} {l : List Spn} (h : ∀ i u, (spc l)[i]? = some u → w.cell? ⟨b, off + i, none⟩ = some u) (k : Nat) (hk : k < l.length) : w.rangeAt b (off + k * 3) (spv l[k]) := by
  intro j v hj
  have hj3 : j < 3 := (List.getElem?_eq_some_iff.1 hj).1
  have := h (k * 3 + j) v (by rw [spc_at l k hk j hj3]; exact hj)
  rwa [← Nat.add_assoc] at this
theorem rc_span {w : World} {A : Option Addr} {l : List Spn} (h : Rc w A (spc l)) (h0 : 0 < l.length) : ∃ b off, A = some ⟨b, off, none⟩ ∧ b < w.heap.size ∧ ∀ k, (hk : k < l.length) → w.rangeAt b (off + k * 3) (spv l[k]) := by
  obtain ⟨b, off, hA, hb, hc⟩ := h.form (by rw [spc_len]; omega)
  exact ⟨b, off, hA, hb, fun k hk => rc_span0 hc k hk⟩
def SV (A B : Option Addr) (n c d k b1 o1 b2 o2 : Nat) (x y : Spn) (j : Nat) (w : World) (v : Value) : Prop :=
  match j with
  | 0 => v = .slice A n c
  | 1 => v = .int .i64 k
  | 2 => v = .pointer (some ⟨b1, o1 + k * 3, none⟩)
  | 3 => v = .agg (spv x).toArray
  | 4 => v = .slice B n d
  | 5 => v = .int .i64 k
  | 6 => v = .pointer (some ⟨b2, o2 + k * 3, none⟩)
  | 7 => v = .agg (spv y).toArray
  | 8 => v = .bool (!(x == y))
  | _ => True
theorem SV_stab {A B : Option Addr} {n c d k b1 o1 b2 o2 : Nat} {x y : Spn} (i j : Nat) (w w' : World) (v : Value) (h : SV A B n c d k b1 o1 b2 o2 x y j w v) : SV A B n c d k b1 o1 b2 o2 x y j w' v := by
  rcases j with _ | _ | _ | _ | _ | _ | _ | _ | _ | j <;> exact h
set_option maxHeartbeats 4000000 in
theorem spans_same (A B : Option Addr) (c d : Nat) (l m : List Spn) (w : World) (hl : Rc w A (spc l)) (hm : Rc w B (spc m)) (hn : l.length ≤ 1000000) :
    Calls Try.prog 15 #[.slice A l.length c, .slice B m.length d] w fun e w' => e = .returned (.bool (l == m)) ∧ Below w.heap.size w w' := by
  by_cases hlen : l.length = m.length
  · have c1 : ((l.length : Int) != (m.length : Int)) = false := by simp; omega
    obtain ⟨n, hn1⟩ : ∃ n, l.length = n := ⟨_, rfl⟩
    have hn2 : m.length = n := by omega
    rw [hn1, hn2]
    rw [hn1, hn2] at c1
    rw [hn1] at hn
    have HL := Hd.mk hl
    have HM := Hd.mk hm
    have H1 := Hd.mk hn1
    have H2 := Hd.mk hn2
    clear hl hm hn1 hn2 hlen
    go_enter Try.func15, Try.ntmps15
    go_wp2
    go_loopw [5] (fun i wr => ∃ k : Nat, k ≤ n ∧ i = .int .i64 k ∧ Hd (Below w.heap.size w wr) ∧ Hd (l.take k = m.take k)) (fun i _ => n - (intOf i).toNat)
    case atStart => exact ⟨0, by omega, rfl, ⟨Below.refl _ _⟩, ⟨rfl⟩⟩
    case round =>
      obtain ⟨k, hk, rfl, HB, HT⟩ := hrel
      by_cases hlt : k < n
      · have hk1 : k < l.length := by rw [H1.out]; exact hlt
        have hk2 : k < m.length := by rw [H2.out]; exact hlt
        obtain ⟨b1, o1, rfl, hb1, hr1⟩ := rc_span HL.out (by omega)
        obtain ⟨b2, o2, rfl, hb2, hr2⟩ := rc_span HM.out (by omega)
        have hx0 := hr1 k hk1
        have hy0 := hr2 k hk2
        obtain ⟨x, hx⟩ : ∃ x, l[k] = x := ⟨_, rfl⟩
        obtain ⟨y, hy⟩ : ∃ y, m[k] = y := ⟨_, rfl⟩
        rw [hx] at hx0
        rw [hy] at hy0
        have HX0 : Hd (∀ W, Below w.heap.size w W → W.rangeAt b1 (o1 + k * 3) (spv x)) := ⟨fun W h j v hj => (h.cell (p := ⟨b1, o1 + k * 3 + j, none⟩) hb1).trans (hx0 j v hj)⟩
        have HY0 : Hd (∀ W, Below w.heap.size w W → W.rangeAt b2 (o2 + k * 3) (spv y)) := ⟨fun W h j v hj => (h.cell (p := ⟨b2, o2 + k * 3 + j, none⟩) hb2).trans (hy0 j v hj)⟩
        have HXY : Hd (∀ (h1 : k < l.length) (h2 : k < m.length), l[k] = x ∧ m[k] = y) := ⟨fun _ _ => ⟨hx, hy⟩⟩
        clear hx hy hx0 hy0 hr1 hr2 hb1 hb2 hk1 hk2
        go_wp2
        refine region_fam (fun f => #[Value.slice (some ⟨b1, o1, none⟩) n c, Value.slice (some ⟨b2, o2, none⟩) n d, undef, undef, u4, Value.int .i64 k, Value.slice (some ⟨b1, o1, none⟩) n c, Value.int .i64 n, Value.slice (some ⟨b2, o2, none⟩) n d, Value.int .i64 n, Value.bool false, Value.int .i64 k, Value.slice (some ⟨b1, o1, none⟩) n c, Value.int .i64 n, Value.bool true, u15, u16, f 0, f 1, f 2, f 3, f 4, f 5, f 6, f 7, f 8])
          (SV (some ⟨b1, o1, none⟩) (some ⟨b2, o2, none⟩) n c d k b1 o1 b2 o2 x y) (fun W => Below w.heap.size w W) (fun _ _ _ => True) (by kernel_rfl) (by kernel_rfl)
          (fun i => if i = 0 then u17 else if i = 1 then u18 else if i = 2 then u19 else if i = 3 then u20 else if i = 4 then u21 else if i = 5 then u22 else if i = 6 then u23 else if i = 7 then u24 else if i = 8 then u25 else undef) rfl HB.out.drew (fun i j w w' v _ _ h => SV_stab i j w w' v h) ?put ?step ?fin
        case put =>
          intro i o ho f v
          rcases i with _ | _ | _ | _ | _ | _ | _ | _ | _ | i
          all_goals first | (injection ho with ho; subst ho; rfl) | (cases ho)
        case step =>
          intro i o ho f w6 hG hp
          have hkn : (k : Int) < n := by omega
          rcases i with _ | _ | _ | _ | _ | _ | _ | _ | _ | i
          · injection ho with ho; subst ho
            refine wpOp_go rfl rfl ?_
            go_simp
            first | exact ⟨hG, trivial, rfl⟩ | exact ⟨hG, rfl⟩ | exact rfl
          · injection ho with ho; subst ho
            refine wpOp_go rfl rfl ?_
            go_simp
            first | exact ⟨hG, trivial, rfl⟩ | exact ⟨hG, rfl⟩ | exact rfl
          · injection ho with ho; subst ho
            have h0 : f 0 = _ := hp ⟨0, .data⟩ (by simp) rfl
            have h1 : f 1 = _ := hp ⟨1, .data⟩ (by simp) rfl
            simp only [h0, h1]
            refine wpOp_go rfl rfl ?_
            go_simp
            first | exact ⟨hG, trivial, rfl⟩ | exact ⟨hG, rfl⟩ | exact rfl
          · injection ho with ho; subst ho
            have h2 : f 2 = _ := hp ⟨2, .data⟩ (by simp) rfl
            simp only [h2]
            refine wpOp_go rfl rfl (wp_load_mid 40 _ rfl _ _ rfl _ _ (HX0.out _ hG) Try.underlying40 rfl (spn_info.trans rfl) ?_)
            exact ⟨_, rfl, hG, trivial, rfl⟩
          · injection ho with ho; subst ho
            refine wpOp_go rfl rfl ?_
            go_simp
            first | exact ⟨hG, trivial, rfl⟩ | exact ⟨hG, rfl⟩ | exact rfl
          · injection ho with ho; subst ho
            refine wpOp_go rfl rfl ?_
            go_simp
            first | exact ⟨hG, trivial, rfl⟩ | exact ⟨hG, rfl⟩ | exact rfl
          · injection ho with ho; subst ho
            have h4 : f 4 = _ := hp ⟨4, .data⟩ (by simp) rfl
            have h5 : f 5 = _ := hp ⟨5, .data⟩ (by simp) rfl
            simp only [h4, h5]
            refine wpOp_go rfl rfl ?_
            go_simp
            first | exact ⟨hG, trivial, rfl⟩ | exact ⟨hG, rfl⟩ | exact rfl
          · injection ho with ho; subst ho
            have h6 : f 6 = _ := hp ⟨6, .data⟩ (by simp) rfl
            simp only [h6]
            refine wpOp_go rfl rfl (wp_load_mid 40 _ rfl _ _ rfl _ _ (HY0.out _ hG) Try.underlying40 rfl (spn_info.trans rfl) ?_)
            exact ⟨_, rfl, hG, trivial, rfl⟩
          · injection ho with ho; subst ho
            have h3 : f 3 = _ := hp ⟨3, .data⟩ (by simp) rfl
            have h7 : f 7 = _ := hp ⟨7, .data⟩ (by simp) rfl
            simp only [h3, h7]
            refine wpOp_go rfl rfl (wp_neq (x == y) 40 _ (.tmp 20) (.tmp 24) rfl (spv x).toArray (spv y).toArray rfl rfl (by kernel_rfl) (eq_span x y _) ?_)
            exact ⟨_, rfl, hG, trivial, rfl⟩
          · cases ho
        case fin =>
          intro f w6 hG hV
          have h8 : f 8 = _ := hV 8 (by simp)
          simp only [h8]
          have HB6 := Hd.mk hG
          clear hG hV h8
          cases he : (x == y)
          · have HNE : Hd ((l == m) = false) := ⟨by
              rw [beq_eq_false_iff_ne]
              intro e
              have hk1 : k < l.length := by rw [H1.out]; exact hlt
              have hk2 : k < m.length := by rw [H2.out]; exact hlt
              obtain ⟨e1, e2⟩ := HXY.out hk1 hk2
              have : x = y := by rw [← e1, ← e2]; simp only [e]
              rw [this] at he
              simp at he⟩
            clear he
            go_wp2
            go_ret
            exact ⟨by rw [HNE.out]; rfl, HB6.out⟩
          · have HEQ : Hd (x = y) := ⟨eq_of_beq he⟩
            clear he
            go_wp2
            go_roundw
            case rel =>
              refine ⟨k + 1, by omega, by go_num, HB6, ⟨?_⟩⟩
              have hk1 : k < l.length := by rw [H1.out]; exact hlt
              have hk2 : k < m.length := by rw [H2.out]; exact hlt
              obtain ⟨e1, e2⟩ := HXY.out hk1 hk2
              rw [List.take_succ_eq_append_getElem hk1, List.take_succ_eq_append_getElem hk2, HT.out, e1, e2, HEQ.out]
            case measure => simp [intOf]; omega
      · obtain rfl : k = n := by omega
        have hE : Hd ((l == m) = true) := ⟨by
          have := HT.out
          rw [List.take_of_length_le (Nat.le_of_eq H1.out), List.take_of_length_le (Nat.le_of_eq H2.out)] at this
          rw [this]; simp⟩
        go_wp2
        go_ret
        exact ⟨by rw [hE.out]; rfl, HB.out⟩
  · have c1 : ((l.length : Int) != (m.length : Int)) = true := by simp; omega
    have HNE : Hd ((l == m) = false) := ⟨by rw [beq_eq_false_iff_ne]; rintro rfl; exact hlen rfl⟩
    clear hlen
    go_enter Try.func15, Try.ntmps15
    go_wp2
    go_ret
    exact ⟨by rw [HNE.out]; rfl, Below.refl _ _⟩
end Go.Proofs.Ytmebgejjaljhgaa
