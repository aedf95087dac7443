/- Walks: rows of texts one behind the other; paths joined. -/
import Derived.Lib.AppendZerosOnto
import Derived.Lib.SliceRun
import Derived.Lib.Walk
import Derived.Test.YtncagcbdgimpfaaDoorT15Known
import Derived.Test.YtncagcbdgimpfaaDoorBase9
namespace Go.Proofs.YtncagcbdgimpfaaDoor
open Go.RowKit Go.Sac Go.Shelf
set_option linter.unusedVariables false
set_option linter.unusedSimpArgs false

/-- slices.Grow at the nil slice -/
theorem grow_calls (n : Nat) (w : World) (hn : n * 16 ≤ 140737488355328) :
    Calls Tryd.prog 33 #[.slice none 0 0, .int .i64 n] w fun e w' => ∃ v, e = .returned v ∧ w'.ownsRow w.heap.size 9 1 v 0 [] ∧ Below w.heap.size w w' := by
  rcases Nat.eq_zero_or_pos n with rfl | h0
  · go_enter Tryd.func33, Tryd.ntmps33
    go_wp2
    go_ret
    exact ⟨_, rfl, World.ownsRow_nil _ _ _ _, Below.refl _ _⟩
  · have h1 : ¬ ((n : Int) < 0) := by omega
    have h4 : (n : Int) > 0 := by omega
    obtain ⟨i0, hi, hzz⟩ := Option.map_eq_some_iff.1 info_str
    simp only [Prod.mk.injEq] at hzz
    obtain ⟨hz0, hz1, hz2⟩ := hzz
    have hrz : ∀ ty, (Builtin.append_ #[23, 3] ty #[.slice none 0 0, .int .i64 n]).run Tryd.prog w =
        .ok (.slice (some ⟨w.heap.size, 0, none⟩) n (grownCap w n 0 9)) (w.drew.alloc (.cells (([] : List Value).toArray ++ Builtin.zeroCells (Value.string ByteArray.empty).cells n ++ Builtin.zeroCells (Value.string ByteArray.empty).cells (grownCap w n 0 9 - n)) 9)) := fun ty => by
      have h := Lib.run_append_grow_zeros w 23 3 ty 9 i0 (.string ByteArray.empty) .i64 .i64 Tryd.underlying23 Tryd.underlying3 hi hz0 none 0 0 [] (run_firstCells_none w.drew i0.size 0 0 0) n (by omega) (by omega) (by omega) (by omega) (by rw [hz2]; omega) (by rw [hz2, Nat.zero_add]; exact growslice_fits (by omega) (by omega))
      rw [Nat.zero_add] at h
      exact h
    have hG63 : grownCap w n 0 9 ≤ maxLen := grownCap_le_maxLen w n 0 _ (by unfold maxLen; omega)
    have hGn : n ≤ grownCap w n 0 9 := grownCap_ge w _ _ _
    obtain ⟨G, hG⟩ : ∃ G, G = grownCap w n 0 9 := ⟨_, rfl⟩
    rw [← hG] at hrz hG63 hGn
    obtain ⟨cur, hcur⟩ : ∃ cur, cur = (([] : List Value).toArray ++ Builtin.zeroCells (Value.string ByteArray.empty).cells n ++ Builtin.zeroCells (Value.string ByteArray.empty).cells (G - n)) := ⟨_, rfl⟩
    rw [← hcur] at hrz
    have HC : Hd (cur.size = G * 1) := ⟨by
      rw [hcur]
      have : (Value.string ByteArray.empty).cells.size = 1 := rfl
      simp [size_zeroCells, this]
      omega⟩
    have hgm : G ≤ 9223372036854775807 := by unfold maxLen at hG63; omega
    have HM := Hd.mk hG63
    clear hG hcur hG63
    go_enter Tryd.func33, Tryd.ntmps33
    go_wp2_with (at_builtin; refine Lib.wpList_append_run _ rfl _ _ _ _ rfl _ _ rfl rfl _ _ (hrz _) ?_)
    go_ret
    exact ⟨_, rfl, World.ownsRow_made w.drew cur G (Nat.le_refl _) HM.out HC.out, (Below.refl _ w).drew.alloc (Nat.le_refl _) _⟩
theorem svs_one (xs : List ByteArray) : ∀ u ∈ svs xs, u.oneCell' = true := by
  intro u hu
  simp only [svs, List.mem_map] at hu
  obtain ⟨x, _, rfl⟩ := hu
  rfl
theorem svs_app (xs ys : List ByteArray) : svs (xs ++ ys) = svs xs ++ svs ys := by simp [svs]
/-- one of two -/
def two {α : Type} (a b : α) (k : Nat) : α := if k = 0 then a else b
/-- how many lie in the first k of two rows -/
def sum2 (n m k : Nat) : Nat := if k = 0 then 0 else if k = 1 then n else n + m
def app2 (xs ys : List ByteArray) (k : Nat) : List ByteArray := if k = 0 then [] else if k = 1 then xs else xs ++ ys
theorem app2_len (xs ys : List ByteArray) (k : Nat) : (app2 xs ys k).length = sum2 xs.length ys.length k := by
  unfold app2 sum2; split <;> (try split) <;> simp
theorem sum2_step (n m k : Nat) (hk : k < 2) : sum2 n m k + two n m k = sum2 n m (k + 1) := by
  rcases (show k = 0 ∨ k = 1 by omega) with rfl | rfl <;> simp [sum2, two]
theorem app2_step (xs ys : List ByteArray) (k : Nat) (hk : k < 2) : app2 xs ys k ++ two xs ys k = app2 xs ys (k + 1) := by
  rcases (show k = 0 ∨ k = 1 by omega) with rfl | rfl <;> simp [app2, two]
theorem two_le {n m k B : Nat} (h1 : n ≤ B) (h2 : m ≤ B) : two n m k ≤ B := by unfold two; split <;> assumption
theorem sum2_le {n m k B : Nat} (h : n + m ≤ B) : sum2 n m k ≤ B := by unfold sum2; split <;> (try split) <;> omega
set_option maxHeartbeats 4000000 in
theorem concat_calls (g : Nat) (A1 A2 : Option Addr) (c1 c2 : Nat) (xs ys : List ByteArray) (w : World) (hb : Blk w g 23 [.slice A1 xs.length c1, .slice A2 ys.length c2]) (hx : Rc w A1 (svs xs)) (hy : Rc w A2 (svs ys)) (hn : (xs.length + ys.length) * 16 ≤ 140737488355328) :
    Calls Tryd.prog 28 #[.slice (some ⟨g, 0, none⟩) 2 2] w fun e w' => ∃ v, e = .returned v ∧ w'.ownsRow w.heap.size 9 1 v (xs.length + ys.length) (svs (xs ++ ys)) ∧ Below w.heap.size w w' := by
  have H0 := Hd.mk hb
  have HX := Hd.mk hx
  have HY := Hd.mk hy
  obtain ⟨n, hnx⟩ : ∃ n, xs.length = n := ⟨_, rfl⟩
  obtain ⟨m, hmy⟩ : ∃ m, ys.length = m := ⟨_, rfl⟩
  rw [hnx, hmy] at hn H0 ⊢
  have HN := Hd.mk hnx
  have HM := Hd.mk hmy
  clear hb hx hy hnx hmy
  have hbound : ∀ k, sum2 n m k ≤ 8796093022208 := fun k => sum2_le (by omega)
  have hbound2 : ∀ k, two n m k ≤ 8796093022208 := fun k => two_le (by omega) (by omega)
  go_enter Tryd.func28, Tryd.ntmps28
  go_wp2
  go_loopw [3, 11] (fun s i wr => ∃ k : Nat, k ≤ 2 ∧ i = .int .i64 k ∧ s = .int .i64 (sum2 n m k : Nat) ∧ w = wr) (fun _ i _ => 2 - (intOf i).toNat)
  case atStart => exact ⟨0, by omega, rfl, rfl, rfl⟩
  case round =>
    obtain ⟨k, hk, rfl, rfl, rfl⟩ := hrel
    by_cases hlt : k < 2
    · have HC : Hd (w.cell? ⟨g, k, none⟩ = some (.slice (two A1 A2 k) (two n m k) (two c1 c2 k))) := ⟨H0.out.cell (by rcases (show k = 0 ∨ k = 1 by omega) with rfl | rfl <;> rfl)⟩
      have hc := HC.out
      have hs1 := hbound k
      have hs2 := hbound (k + 1)
      have hs3 := hbound2 k
      have hst := sum2_step n m k hlt
      go_wp2
      go_roundw
      case rel => exact ⟨k + 1, by omega, by go_num, by rw [← hst]; go_num, trivial⟩
      case measure => simp [intOf]; omega
    · obtain rfl : k = 2 := by omega
      have e2 : sum2 n m 2 = n + m := rfl
      rw [e2]
      go_wp2_with (go_at_call 33; refine (grow_calls (n + m) _ hn).mono ?_; rintro e w1 ⟨v, rfl, ho, hb1⟩; have HO := Hd.mk ho; have HB := Hd.mk hb1; clear ho hb1)
      have HO0 : Hd (w1.ownsRow w.heap.size 9 1 v (sum2 n m 0) (svs (app2 xs ys 0))) := HO
      clear HO
      go_loopw [6, 27] (fun v i wq => ∃ k : Nat, k ≤ 2 ∧ i = .int .i64 k ∧ Hd (wq.ownsRow w.heap.size 9 1 v (sum2 n m k) (svs (app2 xs ys k))) ∧ Hd (Below w.heap.size w wq)) (fun _ i _ => 2 - (intOf i).toNat)
      case atStart => exact ⟨0, by omega, rfl, HO0, HB⟩
      case round =>
        clear HO0 HB
        obtain ⟨k, hk, rfl, HO, HB⟩ := hrel
        obtain ⟨A, c, rfl, _, _, _⟩ := own_rc HO.out
        by_cases hlt : k < 2
        · have HC : Hd (wr.cell? ⟨g, k, none⟩ = some (.slice (two A1 A2 k) (two n m k) (two c1 c2 k))) := ⟨(H0.out.below HB.out H0.out.lt).cell (by rcases (show k = 0 ∨ k = 1 by omega) with rfl | rfl <;> rfl)⟩
          have hc := HC.out
          have HR : Hd (Rc wr (two A1 A2 k) (svs (two xs ys k))) := ⟨by
            rcases (show k = 0 ∨ k = 1 by omega) with rfl | rfl
            · exact HX.out.below HB.out
            · exact HY.out.below HB.out⟩
          have hs3 := hbound2 k
          have hst := sum2_step n m k hlt
          have hap := app2_step xs ys k hlt
          have hl := hbound (k + 1)
          have htl : (two xs ys k).length = two n m k := by
            unfold two; split
            · exact HN.out
            · exact HM.out
          have HT := Hd.mk htl
          have HS := Hd.mk hst
          have HA := Hd.mk hap
          clear htl hst hap
          go_wp2_with (at_builtin; refine app_rc w.heap.size 23 9 (.string ByteArray.empty) 1 16 (.tmp 31) (.tmp 32) rfl rfl Tryd.underlying23 info_str rfl (by decide) (by decide) (.slice A (sum2 n m k) c) (sum2 n m k) (svs (app2 xs ys k)) (svs (two xs ys k)) (two A1 A2 k) (two n m k) (two c1 c2 k) rfl rfl HO.out HR.out (by rw [svs_len, HT.out, Nat.mul_one]) (svs_one _) HB.out.size (by rw [HS.out]; omega) (sum2 n m (k + 1)) (svs (app2 xs ys (k + 1))) HS.out (by rw [← HA.out, svs_app]) ?_; intro v1 w1 ho hg hat; have HO1 := Hd.mk ho; have HG := Hd.mk hg; clear ho hg hat)
          go_roundw
          case rel => exact ⟨k + 1, by omega, by go_num, HO1, ⟨below_lift HB.out HB.out.size HG.out (fun b hb => (own_lt HO.out b hb).1)⟩⟩
          case measure => simp [intOf]; omega
        · obtain rfl : k = 2 := by omega
          go_wp2
          go_ret
          exact ⟨.slice A (sum2 n m 2) c, rfl, HO.out, HB.out⟩
theorem clone_any (A : Option Addr) (n c : Nat) (xs : List ByteArray) (w : World) (hx : Rc w A (svs xs)) (e1 : n = xs.length) (hn : n * 16 ≤ 140737488355328) :
    Calls Tryd.prog 27 #[.slice A n c] w fun e w' => ∃ v, e = .returned v ∧ w'.ownsRow w.heap.size 9 1 v n (svs xs) ∧ Below w.heap.size w w' := by
  subst e1
  rcases Nat.eq_zero_or_pos xs.length with h0 | h0
  · obtain rfl : xs = [] := List.eq_nil_of_length_eq_zero h0
    rcases A with _ | a
    · exact (slices_Clone_string_nil 0 c w).mono fun e w' h => by obtain ⟨h1, rfl⟩ := h; exact ⟨_, h1, World.ownsRow_nil _ _ _ _, Below.refl _ _⟩
    · exact (slices_Clone_string_zero a c w).mono fun e w' h => by obtain ⟨v, h1, h2, _, h3⟩ := h; exact ⟨v, h1, h2, h3⟩
  · obtain ⟨b, off, rfl, _, hc1⟩ := hx.form (by rw [svs_len]; exact h0)
    refine (slices_Clone_string b off xs.length c xs w (Nat.le_refl _) hn (fun j hj => ?_)).mono fun e w' h => ?_
    · rw [hc1 j _ (sv_at hj), List.getD_eq_getElem?_getD, List.getElem?_eq_getElem hj]; rfl
    · obtain ⟨v, h1, h2, _, h3⟩ := h
      rw [List.take_length] at h2
      exact ⟨v, h1, h2, h3⟩
/-- A path handed back. -/
def RetPath (b : Bool) (xs : List ByteArray) (w : World) (e : Ending) (w' : World) : Prop :=
  ∃ A c, e = .returned (.agg #[.bool b, .slice A xs.length c]) ∧ xs.length ≤ c ∧ Rc w' A (svs xs) ∧ Below w.heap.size w w'
theorem retpath_own {b : Bool} {xs : List ByteArray} {w w' : World} {B : Nat} {v : Value} {n : Nat} (h : w'.ownsRow B 9 1 v n (svs xs)) (hn : n = xs.length) : ∃ A c, v = .slice A xs.length c ∧ xs.length ≤ c ∧ Rc w' A (svs xs) := by
  subst hn
  obtain ⟨A, c, h1, h2, h3, _⟩ := own_rc h
  exact ⟨A, c, h1, h2, h3⟩
/-- what path.Join's last region yields, operation by operation -/
def JV (b1 : Bool) (A1 A2 : Option Addr) (n c1 m c2 p : Nat) (zs : List ByteArray) (j : Nat) (w : World) (v : Value) : Prop :=
  match j with
  | 0 => v = .pointer (some ⟨p, 0, none⟩)
  | 1 => v = .bool b1
  | 2 => v = .pointer (some ⟨p, 1, none⟩)
  | 3 => v = .slice A1 n c1
  | 4 => v = .pointer (some ⟨p + 1, 1, none⟩)
  | 5 => v = .slice A2 m c2
  | 6 => ∃ g, p + 3 ≤ g ∧ v = .slice (some ⟨g, 0, none⟩) 2 2 ∧ Blk w g 23 [.slice A1 n c1, .slice A2 m c2]
  | 7 => FreshR (p + 3) (n + m) (svs zs) w v
  | 8 => ∃ u, v = .agg #[.bool b1, u] ∧ FreshR (p + 3) (n + m) (svs zs) w u
  | 9 => ∃ u, Blk w (p + 2) 25 [.bool b1, u] ∧ FreshR (p + 3) (n + m) (svs zs) w u
  | _ => True
def JR (p i : Nat) : World → World → Prop := KeepBut (if i = 9 then some (p + 2) else none)
theorem JV_stab {b1 : Bool} {A1 A2 : Option Addr} {n c1 m c2 p : Nat} {zs : List ByteArray} (i j : Nat) (w w' : World) (v : Value) (hij : i ≠ j) (hR : JR p i w w') (h : JV b1 A1 A2 n c1 m c2 p zs j w v) : JV b1 A1 A2 n c1 m c2 p zs j w' v := by
  have ho : ∀ g, (if i = 9 then some (p + 2) else none) = some g → g < p + 3 := by
    intro g; split
    · intro e; injection e with e; omega
    · intro e; cases e
  rcases j with _ | _ | _ | _ | _ | _ | _ | _ | _ | _ | j <;> try exact h
  · obtain ⟨g, h1, h2, h3⟩ := h
    exact ⟨g, h1, h2, hR.blk h3 fun e => by have := ho g e.symm; omega⟩
  · exact hR.fresh h ho
  · obtain ⟨u, h1, h2⟩ := h
    exact ⟨u, h1, hR.fresh h2 ho⟩
  · obtain ⟨u, h1, h2⟩ := h
    exact ⟨u, hR.blk h1 (by rw [if_neg hij]; simp), hR.fresh h2 ho⟩
structure JG (b1 b2 : Bool) (A1 A2 : Option Addr) (n c1 m c2 : Nat) (w0 w : World) : Prop where
  bel : Below w0.heap.size w0 w
  size : w0.heap.size + 3 ≤ w.heap.size
  bp : Blk w w0.heap.size 25 [.bool b1, .slice A1 n c1]
  bq : Blk w (w0.heap.size + 1) 25 [.bool b2, .slice A2 m c2]
  br : ∃ x y, Blk w (w0.heap.size + 2) 25 [x, y]
theorem JG.grow {b1 b2 : Bool} {A1 A2 : Option Addr} {n c1 m c2 : Nat} {w0 w w' : World} (h : JG b1 b2 A1 A2 n c1 m c2 w0 w) (k : Below w.heap.size w w') : JG b1 b2 A1 A2 n c1 m c2 w0 w' :=
  ⟨below_then h.bel h.bel.size k, Nat.le_trans h.size k.size, h.bp.below k h.bp.lt, h.bq.below k h.bq.lt, by obtain ⟨x, y, hb⟩ := h.br; exact ⟨x, y, hb.below k hb.lt⟩⟩
set_option maxHeartbeats 4000000 in
theorem join_calls (b1 b2 : Bool) (A1 A2 : Option Addr) (n1 c1 n2 c2 : Nat) (xs ys : List ByteArray) (w : World) (hx : Rc w A1 (svs xs)) (hy : Rc w A2 (svs ys)) (e1 : n1 = xs.length) (e2 : n2 = ys.length) (hn : (xs.length + ys.length) * 16 ≤ 140737488355328) :
    Calls Tryd.prog 17 #[.agg #[.bool b1, .slice A1 n1 c1], .agg #[.bool b2, .slice A2 n2 c2]] w fun e w' => RetPath (b2 || b1) (if b2 = true then ys else xs ++ ys) w e w' := by
  have HX := Hd.mk hx
  have HY := Hd.mk hy
  have E1 := Hd.mk e1
  have E2 := Hd.mk e2
  rw [← e1, ← e2] at hn
  clear hx hy e1 e2
  have HB : Hd (Below w.heap.size w (((w.alloc (.cells #[.bool b1, .slice A1 n1 c1] 25)).alloc (.cells #[.bool b2, .slice A2 n2 c2] 25)).alloc (.cells #[.bool false, .slice none 0 0] 25))) := ⟨(((Below.refl _ w).alloc (Nat.le_refl _) _).alloc (by simp) _).alloc (by simp; omega) _⟩
  have HG : Hd (JG b1 b2 A1 A2 n1 c1 n2 c2 w (((w.alloc (.cells #[.bool b1, .slice A1 n1 c1] 25)).alloc (.cells #[.bool b2, .slice A2 n2 c2] 25)).alloc (.cells #[.bool false, .slice none 0 0] 25))) := ⟨HB.out, by simp,
    ((Blk.new w 25 [.bool b1, .slice A1 n1 c1]).alloc (.cells #[.bool b2, .slice A2 n2 c2] 25)).alloc (.cells #[.bool false, .slice none 0 0] 25),
    by have := (Blk.new (w.alloc (.cells #[.bool b1, .slice A1 n1 c1] 25)) 25 [.bool b2, .slice A2 n2 c2]).alloc (.cells #[.bool false, .slice none 0 0] 25)
       rw [World.size_alloc] at this; exact this,
    _, _, by have := Blk.new ((w.alloc (.cells #[.bool b1, .slice A1 n1 c1] 25)).alloc (.cells #[.bool b2, .slice A2 n2 c2] 25)) 25 [.bool false, .slice none 0 0]
             rw [World.size_alloc, World.size_alloc] at this; exact this⟩
  cases b2
  · go_enter Tryd.func17, Tryd.ntmps17
    go_wp2_with (fail)
    change Code.wp Tryd.prog _ _ _ (((w.alloc (.cells #[.bool b1, .slice A1 n1 c1] 25)).alloc (.cells #[.bool false, .slice A2 n2 c2] 25)).alloc (.cells #[.bool false, .slice none 0 0] 25))
    generalize (((w.alloc (.cells #[.bool b1, .slice A1 n1 c1] 25)).alloc (.cells #[.bool false, .slice A2 n2 c2] 25)).alloc (.cells #[.bool false, .slice none 0 0] 25)) = w0 at *
    refine region_fam (fun f => #[.agg #[.bool b1, .slice A1 n1 c1], .agg #[.bool false, .slice A2 n2 c2], .pointer (some ⟨w.heap.size, 0, none⟩), .pointer (some ⟨w.heap.size + 1, 0, none⟩), .pointer (some ⟨w.heap.size + 1 + 1, 0, none⟩), .pointer (some ⟨w.heap.size + 1, 0, none⟩), .bool false, undef, undef, undef, undef, f 0, f 1, f 2, f 3, f 4, f 5, f 6, f 7, f 8])
      (JV b1 A1 A2 n1 c1 n2 c2 w.heap.size (xs ++ ys)) (JG b1 false A1 A2 n1 c1 n2 c2 w) (JR w.heap.size) (by kernel_rfl) (by kernel_rfl) (fun _ => undef) rfl (HG.out.grow (Below.refl _ _).drew) JV_stab ?put ?step ?fin
    case put =>
      intro i o ho f v
      rcases i with _ | _ | _ | _ | _ | _ | _ | _ | _ | _ | i
      all_goals first | (injection ho with ho; subst ho; rfl) | (cases ho)
    case step =>
      intro i o ho f w1 hG hp
      rcases i with _ | _ | _ | _ | _ | _ | _ | _ | _ | _ | i
      · injection ho with ho; subst ho
        refine wpOp_go rfl rfl ?_
        go_simp
        exact ⟨.refl _ _, rfl⟩
      · injection ho with ho; subst ho
        have h0 : f 0 = _ := hp ⟨0, .data⟩ (by simp) rfl
        have hc := hG.bp.cell (i := 0) rfl
        refine wpOp_go rfl rfl ?_
        simp only [h0]
        go_simp
        exact ⟨.refl _ _, rfl⟩
      · injection ho with ho; subst ho
        refine wpOp_go rfl rfl ?_
        go_simp
        exact ⟨.refl _ _, rfl⟩
      · injection ho with ho; subst ho
        have h0 : f 2 = _ := hp ⟨2, .data⟩ (by simp) rfl
        have hc := hG.bp.cell (i := 1) rfl
        refine wpOp_go rfl rfl ?_
        simp only [h0]
        go_simp
        exact ⟨.refl _ _, rfl⟩
      · injection ho with ho; subst ho
        refine wpOp_go rfl rfl ?_
        go_simp
        exact ⟨.refl _ _, rfl⟩
      · injection ho with ho; subst ho
        have h0 : f 4 = _ := hp ⟨4, .data⟩ (by simp) rfl
        have hc := hG.bq.cell (i := 1) rfl
        refine wpOp_go rfl rfl ?_
        simp only [h0]
        go_simp
        exact ⟨.refl _ _, rfl⟩
      · injection ho with ho; subst ho
        have h0 : f 3 = _ := hp ⟨3, .data⟩ (by simp) rfl
        have h1 : f 5 = _ := hp ⟨5, .data⟩ (by simp) rfl
        refine wpOp_go rfl rfl ?_
        simp only [h0, h1]
        go_simp
        exact ⟨hG.grow ((Below.refl _ _).alloc (Nat.le_refl _) _), .alloc _ _ _, w1.heap.size, hG.size, rfl, Blk.new w1 _ [.slice A1 n1 c1, .slice A2 n2 c2]⟩
      · injection ho with ho; subst ho
        obtain ⟨g, hg, h0, hb⟩ := hp ⟨6, .data⟩ (by simp) rfl
        change f 6 = _ at h0
        have hBS := hG.bel
        refine wpOp_go rfl rfl ?_
        simp only [h0]
        go_simp
        have e1 := E1.out
        have e2 := E2.out
        subst e1; subst e2
        refine (concat_calls g A1 A2 c1 c2 xs ys w1 hb (HX.out.below hBS) (HY.out.below hBS) hn).mono ?_
        rintro e w2 ⟨v, rfl, ho, hb2⟩
        exact ⟨hG.grow hb2, .of_below hb2 _, (FreshR.of_own ho rfl).mono hG.size⟩
      · injection ho with ho; subst ho
        have h0 : f 1 = _ := hp ⟨1, .data⟩ (by simp) rfl
        have h1 := hp ⟨7, .data⟩ (by simp) rfl
        obtain ⟨A, c, h2, h3⟩ := h1
        change f 7 = _ at h2
        refine wpOp_go rfl rfl ?_
        simp only [h0, h2]
        go_simp
        exact ⟨.refl _ _, _, rfl, A, c, rfl, h3⟩
      · injection ho with ho; subst ho
        obtain ⟨u, h0, h1⟩ := hp ⟨8, .data⟩ (by simp) rfl
        change f 8 = _ at h0
        obtain ⟨A, c, rfl, h3⟩ := h1
        obtain ⟨x, y, hbr⟩ := hG.br
        simp only [h0]
        refine wpOp_go rfl rfl (wp_store_row 25 (.tmp 4) (.tmp 19) rfl (w.heap.size + 2) #[.bool b1, .slice A (n1 + n2) c] rfl rfl 25 _ hbr (info_path.trans (by simp)) (by simp) (by simp [Value.oneCell']) ?_)
        refine ⟨undef, rfl, ?_, ?_, ?_⟩
        · exact ⟨below_row hG.bel (by omega) _, by simp; exact hG.size, hG.bp.rowFar (by omega) _, hG.bq.rowFar (by omega) _, _, _, hbr.putRow [.bool b1, .slice A (n1 + n2) c]⟩
        · exact KeepBut.row w1 _ _
        · exact ⟨.slice A (n1 + n2) c, hbr.putRow [.bool b1, .slice A (n1 + n2) c], (KeepBut.row w1 _ _).fresh ⟨A, c, rfl, h3⟩ (fun g e => by injection e with e; omega)⟩
      · cases ho
    case fin =>
      intro f w1 hG hV
      obtain ⟨u, hb, A, c, rfl, h1, h2, _⟩ := hV 9 (by simp)
      go_wp2_with (fail)
      refine bodyPost_ret (results_cell_row rfl _ _ (w.heap.size + 2) 25 #[.bool b1, .slice A (n1 + n2) c] (0, 0) _ rfl hb Tryd.underlying25 rfl (info_path.trans (by simp))) rfl ?_
      have e3 : n1 + n2 = (xs ++ ys).length := by rw [List.length_append, E1.out, E2.out]
      rw [e3] at h1 ⊢
      exact ⟨A, c, rfl, h1, h2, hG.bel⟩
  · go_enter Tryd.func17, Tryd.ntmps17
    go_wp2_with (first
      | (go_at_call 27
         refine (clone_any _ _ _ ys _ (HY.out.below HB.out) E2.out (by omega)).mono ?_
         rintro e w2 ⟨v, rfl, ho, hb2⟩
         obtain ⟨A, c, rfl, h1, h2, h3⟩ := FreshR.of_own ho rfl
         have HG2 := Hd.mk (HG.out.grow hb2)
         have H3 := Hd.mk (And.intro h1 (And.intro h2 h3))
         clear ho hb2 h1 h2 h3 HG HB)
      | (obtain ⟨x, y, hbr⟩ := HG2.out.br
         refine wpList_store_row rfl 25 (.tmp 4) (.tmp 10) rfl (w.heap.size + 2) #[.bool true, .slice A n2 c] rfl rfl 25 _ hbr (info_path.trans (by simp)) (by simp) (by simp [Value.oneCell']) ?_
         have HBR := Hd.mk (hbr.putRow [.bool true, .slice A n2 c])
         clear hbr))
    have e2 := E2.out
    subst e2
    refine bodyPost_ret (results_cell_row rfl _ _ (w.heap.size + 2) 25 #[.bool true, .slice A ys.length c] (0, 0) _ rfl HBR.out Tryd.underlying25 rfl (info_path.trans (by simp))) rfl ?_
    obtain ⟨A', c', e, h1, h2, _⟩ := (KeepBut.row w2 (w.heap.size + 2) #[.bool true, .slice A ys.length c]).fresh (p := w.heap.size + 3) ⟨A, c, rfl, H3.out.1, H3.out.2.1, fun a ha => by have := H3.out.2.2 a ha; simpa using this⟩ (fun g e => by injection e with e; omega)
    injection e with e1 e2 e3
    subst e1; subst e3
    exact ⟨A, c, rfl, h1, h2, below_row HG2.out.bel (by omega) _⟩
end Go.Proofs.YtncagcbdgimpfaaDoor
