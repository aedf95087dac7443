/- Walks: an entry put into a row. -/
import Derived.Test.YtiloeaenpanjcaaE14Grow
import Derived.Test.YtiloeaenpanjcaaBase14
namespace Go.Proofs.Ytiloeaenpanjcaa
open Go.RowKit Go.Sac
set_option linter.unusedVariables false
set_option linter.unusedSimpArgs false

/-- a row of entries, and an error -/
def RetLE (l : List Ent) (er : Int) (w : World) (e : Ending) (w' : World) : Prop := ∃ v, e = .returned (.tuple #[v, .int .i64 er]) ∧ w'.ownsRow w.heap.size 31 2 v l.length (ens l) ∧ Below w.heap.size w w'
def posE (l : List Ent) (x : Ent) : Nat := if idxE l x < 0 then l.length else (idxE l x).toNat
def insE (l : List Ent) (x : Ent) : List Ent := l.take (posE l x) ++ (x :: l.drop (posE l x))
theorem idxE_ways (l : List Ent) (x : Ent) : (idxE l x = -1 ∧ posE l x = l.length) ∨ ∃ k : Nat, idxE l x = (k : Int) ∧ k < l.length ∧ posE l x = k := by
  unfold posE idxE
  cases h : l.findIdx? (fun y => gtN y.1 x.1) with
  | none => exact Or.inl ⟨rfl, rfl⟩
  | some k =>
    have := (List.findIdx?_eq_some_iff_getElem.1 h).1
    refine Or.inr ⟨k, rfl, this, ?_⟩
    dsimp only
    rw [if_neg (by omega)]
    omega
theorem posE_le (l : List Ent) (x : Ent) : posE l x ≤ l.length := by
  rcases idxE_ways l x with ⟨_, h⟩ | ⟨k, _, h1, h2⟩ <;> omega
theorem insE_len (l : List Ent) (x : Ent) : (insE l x).length = l.length + 1 := by
  have := posE_le l x
  unfold insE; simp; omega
theorem insE_ens (l : List Ent) (x : Ent) : ens (insE l x) = insB (ens l) (posE l x) x := by
  have := posE_le l x
  unfold insE insB
  rw [ens_app, show x :: l.drop (posE l x) = [x] ++ l.drop (posE l x) from rfl, ens_app, ens_single, ens_take _ _ this, ens_drop _ _ this]
def putL (l : List Ent) (x : Ent) : List Ent := if namedL x.1.data.toList then (if 0 ≤ atE l x.1 then [] else insE l x) else []
def putE (l : List Ent) (x : Ent) : Int := if namedL x.1.data.toList then (if 0 ≤ atE l x.1 then 13 else 0) else 11
theorem atE_ways (l : List Ent) (t : ByteArray) : atE l t = -1 ∨ ∃ k : Nat, atE l t = (k : Int) ∧ k < l.length := by
  unfold atE
  cases h : l.findIdx? (fun y => decide (y.1 = t)) with
  | none => exact Or.inl rfl
  | some k => exact Or.inr ⟨k, rfl, (List.findIdx?_eq_some_iff_getElem.1 h).1⟩
/-- what the last region yields -/
def PUV (A : Option Addr) (n c B : Nat) (l : List Ent) (x : Ent) (q : Nat) (w : World) (v : Value) : Prop :=
  match q with
  | 0 => v = .slice A n c
  | 1 => True
  | 2 => v = .int .i64 (posE l x : Int)
  | 3 => v = ev x
  | 4 => True
  | 5 => w.ownsRow B 31 2 v (insE l x).length (ens (insE l x))
  | 6 => w.ownsRow B 31 2 v (insE l x).length (ens (insE l x))
  | 7 => v = .int .i64 0
  | _ => True
structure PUG (w0 : World) (l : List Ent) (x : Ent) (L : Nat → Bool) (w : World) (f : Nat → Value) : Prop where
  bel : Below w0.heap.size w0 w
  siz : w0.heap.size + 1 ≤ w.heap.size
  bx : Blk w w0.heap.size 31 (ecs x)
  r1 : L 1 = true → L 5 = false → w.ownsRow (w0.heap.size + 1) 31 2 (f 1) l.length (ens l)
  r4 : L 4 = true → L 5 = false → ∃ g, f 4 = .slice (some ⟨g, 0, none⟩) 1 1 ∧ Blk w g 31 (ecs x)
  ap : Apart 1 4 L w f
/-- an operation that makes no row -/
theorem PUG.past {w0 : World} {l : List Ent} {x : Ent} {L : Nat → Bool} {w : World} {f : Nat → Value} (h : PUG w0 l x L w f) (q : Nat) (v : Value) (h1 : q ≠ 1) (h4 : q ≠ 4) (h5 : q ≠ 5) : PUG w0 l x (fun j => j == q || L j) w (upd f q v) := by
  have e1 : (1 == q || L 1) = L 1 := by simp [Ne.symm h1]
  have e4 : (4 == q || L 4) = L 4 := by simp [Ne.symm h4]
  have e5 : (5 == q || L 5) = L 5 := by simp [Ne.symm h5]
  refine ⟨h.bel, h.siz, h.bx, ?_, ?_, h.ap.past v (Nat.le_refl _) h1 h4⟩
  · intro a b; rw [upd_ne _ _ _ _ (Ne.symm h1)]; exact h.r1 (e1 ▸ a) (e5 ▸ b)
  · intro a b; rw [upd_ne _ _ _ _ (Ne.symm h4)]; exact h.r4 (e4 ▸ a) (e5 ▸ b)
def PUR (q : Nat) (w w' : World) : Prop := q ≠ 5 → Below w.heap.size w w'
theorem PUV_stab {A : Option Addr} {n c B : Nat} {l : List Ent} {x : Ent} (i j : Nat) (w w' : World) (v : Value) (hne : i ≠ j) (hR : PUR i w w') (h : PUV A n c B l x j w v) (h6 : j = 5 ∨ j = 6 → i ≠ 5) : PUV A n c B l x j w' v := by
  rcases j with _ | _ | _ | _ | _ | _ | _ | _ | j
  · exact h
  · exact h
  · exact h
  · exact h
  · exact h
  · exact own_below h (hR (h6 (Or.inl rfl)))
  · exact own_below h (hR (h6 (Or.inr rfl)))
  · exact h
  · exact h
theorem PUG.clone {w0 : World} {l : List Ent} {x : Ent} {L : Nat → Bool} {w w' : World} {f : Nat → Value} (h : PUG w0 l x L w f) (v : Value) (ho : w'.ownsRow w.heap.size 31 2 v l.length (ens l)) (hb : Below w.heap.size w w') : PUG w0 l x (fun j => j == 1 || L j) w' (upd f 1 v) := by
  have hs := hb.size
  refine ⟨below_then h.bel (by have := h.siz; omega) hb, by have := h.siz; omega, h.bx.below hb (by have := h.siz; omega), ?_, ?_, h.ap.first (by decide) v hs (fun k hk => own_lt ho k hk)⟩
  · intro _ _; rw [upd_same]; exact own_lower ho h.siz
  · intro a b
    obtain ⟨g, h1, h2⟩ := h.r4 a b
    exact ⟨g, h1, h2.below hb h2.lt⟩
theorem PUG.built {w0 : World} {l : List Ent} {x : Ent} {L : Nat → Bool} {w : World} {f : Nat → Value} (h : PUG w0 l x L w f) : PUG w0 l x (fun j => j == 4 || L j) (w.alloc (.cells (ecs x).toArray 31)) (upd f 4 (.slice (some ⟨w.heap.size, 0, none⟩) 1 1)) := by
  have hb : Below w.heap.size w (w.alloc (.cells (ecs x).toArray 31)) := (Below.refl _ w).alloc (Nat.le_refl _) _
  have hs := hb.size
  refine ⟨below_then h.bel (by have := h.siz; omega) hb, by have := h.siz; omega, h.bx.below hb (by have := h.siz; omega), ?_, ?_, h.ap.second (by decide) _ hs (fun k hk => ?_)⟩
  · intro a b; exact own_below (h.r1 a b) hb
  · intro _ _; exact ⟨_, upd_same _ _ _, Blk.new w _ _⟩
  · have := Option.some.inj hk
    subst this
    exact ⟨Nat.le_refl _, by simp⟩
theorem PUG.laid {w0 : World} {l : List Ent} {x : Ent} {L : Nat → Bool} {w w' : World} {f : Nat → Value} (h : PUG w0 l x L w f) (v : Value) (hb : Below (w0.heap.size + 1) w w') : PUG w0 l x (fun j => j == 5 || L j) w' (upd f 5 v) := by
  have hs := hb.size
  refine ⟨h.bel.trans (hb.mono (by omega)), by have := h.siz; omega, h.bx.below hb (by omega), nofun, nofun, h.ap.past v hs (by decide) (by decide)⟩
section
variable {P : Program} {o : Oper} {a : Act} {w : World} {K : Act → World → Prop} {Q : Exit → Act → World → Prop}
theorem wp_mv (x : Operand) (ho : o.op = .move x) (h : K (a.put o.dst (a.eval x)) w) : o.wp P a w K Q := by
  unfold Oper.wp execOp
  simp only [ho, Sem.run_pure]
  exact h
theorem wp_as (x : Operand) (ho : o.op = .assign x) (h : K (a.put o.dst (a.eval x)) w) : o.wp P a w K Q := by
  unfold Oper.wp execOp
  simp only [ho, Sem.run_pure]
  exact h
end
theorem blk_range {w : World} {g : Nat} {E : TypeId} {cs : List Value} (h : Blk w g E cs) : w.rangeAt g 0 cs := fun j v hv => by rw [Nat.zero_add]; exact h.cell hv
set_option maxHeartbeats 4000000 in
theorem put_fresh (A : Option Addr) (n c : Nat) (l : List Ent) (x : Ent) (w : World) (hl : Rc w A (ens l)) (e1 : n = l.length) (hn : l.length ≤ 5864062014634) (hs : x.1.size ≤ 140737488351232) (hN : namedL x.1.data.toList = true) (hA : atE l x.1 = -1) :
    Calls Try.prog 14 #[.slice A n c, ev x] w (RetLE (insE l x) 0 w) := by
  obtain ⟨xn, xk⟩ := x
  have HL := Hd.mk hl
  have HE := Hd.mk e1
  have HNM := Hd.mk hN
  have HAT := Hd.mk hA
  have HN := Hd.mk hn
  have K0 : Hd (Blk (w.alloc (.cells #[.string xn, .int .i64 xk] 31)) w.heap.size 31 (ecs (xn, xk))) := ⟨Blk.new w _ _⟩
  have HB : Hd (Below w.heap.size w (w.alloc (.cells #[.string xn, .int .i64 xk] 31))) := ⟨(Below.refl _ w).alloc (Nat.le_refl _) _⟩
  have SZ : Hd (w.heap.size + 1 ≤ (w.alloc (.cells #[.string xn, .int .i64 xk] 31)).heap.size) := ⟨by simp⟩
  clear hl e1 hN hA hn
  dsimp only at hs
  rcases idxE_ways l (xn, xk) with ⟨hi, hp⟩ | ⟨k, hi, hk, hp⟩
  · have HI := Hd.mk hi
    have HP : Hd ((posE l (xn, xk) : Int) = (n : Int)) := ⟨by rw [hp, HE.out]⟩
    clear hi hp
    unfold ev
    go_enter Try.func14, Try.ntmps14
    go_wp2_with (first
      | (go_at_call 12; refine (named_calls _ _ hs).mono ?_; rintro e w1 ⟨rfl, hb⟩; rw [HNM.out]; have SZ := Hd.mk (Nat.le_trans SZ.out hb.size); have K0 := Hd.mk (K0.out.below hb K0.out.lt); have HB := Hd.mk (below_then HB.out HB.out.size hb); have hc : w1.cell? ⟨w.heap.size, 0, none⟩ = some (.string xn) := K0.out.cell rfl; clear hb)
      | (go_at_call 29; refine (at_calls A n c l _ _ (HL.out.below HB.out) HE.out (by have := HN.out; omega)).mono ?_; rintro e w2 ⟨rfl, hb⟩; rw [HAT.out]; have SZ := Hd.mk (Nat.le_trans SZ.out hb.size); have K0 := Hd.mk (K0.out.below hb K0.out.lt); have HB := Hd.mk (below_then HB.out HB.out.size hb); clear hb)
      | (go_at_call 30; refine (index_calls A n c l (xn, xk) _ _ (HL.out.below HB.out) K0.out HE.out (by have := HN.out; omega)).mono ?_; rintro e w3 ⟨rfl, hb⟩; rw [HI.out]; have SZ := Hd.mk (Nat.le_trans SZ.out hb.size); have K0 := Hd.mk (K0.out.below hb K0.out.lt); have HB := Hd.mk (below_then HB.out HB.out.size hb); clear hb))
    refine region_famG (fun f => #[Value.slice A n c, Value.agg #[Value.string xn, Value.int .i64 xk], undef, Value.pointer (some ⟨w.heap.size, 0, none⟩), f 6, f 7, Value.int .i64 (n : Int), Value.bool false, Value.pointer (some ⟨w.heap.size, 0, none⟩), Value.string xn, Value.bool true, Value.bool false, Value.bool false, Value.slice A n c, Value.pointer (some ⟨w.heap.size, 0, none⟩), Value.string xn, Value.int .i64 (-1), Value.bool false, Value.slice A n c, Value.func (.func 31) #[] #[Value.pointer (some ⟨w.heap.size, 0, none⟩)], Value.int .i64 (-1), Value.int .i64 (-1), Value.bool true, Value.slice A n c, Value.int .i64 (n : Int), f 0, f 1, f 2, f 3, f 4, f 5])
      (PUV A n c (w.heap.size + 1) l (xn, xk)) (PUG w l (xn, xk)) PUR (by kernel_rfl) (by kernel_rfl)
      (fun i => if i = 6 then .slice none 0 0 else if i = 7 then .int .i64 0 else undef) rfl ⟨HB.out.drew, SZ.out, K0.out.drew, nofun, nofun, Apart.start _ _ _ _⟩ ?stab ?put ?step ?fin
    case stab =>
      intro i j w1 w2 v o ho hne haf hR h
      refine PUV_stab i j w1 w2 v hne hR h ?_
      rintro (rfl | rfl)
      · exact Ne.symm (Ne.symm hne)
      · injection ho with ho; subst ho; exact Ne.symm (haf ⟨5, .data⟩ (by simp) rfl)
    case put =>
      intro i o ho f v
      rcases i with _ | _ | _ | _ | _ | _ | _ | _ | i
      all_goals first | (injection ho with ho; subst ho; rfl) | (cases ho)
    case step =>
      intro L q o ho hq f w6 hG hp
      rcases q with _ | _ | _ | _ | _ | _ | _ | _ | q
      · injection ho with ho; subst ho
        refine wpOp_go rfl rfl (wp_mv _ rfl ⟨_, rfl, hG.past 0 _ (by decide) (by decide) (by decide), fun _ => Below.refl _ _, rfl⟩)
      · injection ho with ho; subst ho
        have h0 : f 0 = _ := (hp ⟨0, .data⟩ (by simp) rfl).2
        simp only [h0]
        refine wpOp_go rfl rfl ?_
        go_simp
        refine (clone_calls A n c l _ (HL.out.below hG.bel) HE.out (by have := HN.out; omega)).mono ?_
        rintro e w7 ⟨v, rfl, ho, hb⟩
        refine ⟨hG.clone v ho hb, fun _ => hb, trivial⟩
      · injection ho with ho; subst ho
        refine wpOp_go rfl rfl (wp_mv _ rfl ⟨_, rfl, hG.past 2 _ (by decide) (by decide) (by decide), fun _ => Below.refl _ _, congrArg (Value.int .i64) HP.out.symm⟩)
      · injection ho with ho; subst ho
        refine wpOp_go rfl rfl (wp_ldmid 31 _ rfl w.heap.size 0 rfl (ecs (xn, xk)) _ (blk_range hG.bx) Try.underlying31 rfl (ent_info.trans rfl) ?_)
        exact ⟨_, rfl, hG.past 3 _ (by decide) (by decide) (by decide), fun _ => Below.refl _ _, rfl⟩
      · injection ho with ho; subst ho
        have h3 : f 3 = _ := (hp ⟨3, .data⟩ (by simp) rfl).2
        simp only [h3, ev]
        refine wpOp_go rfl rfl ?_
        go_simp
        exact ⟨hG.built, fun _ => (Below.refl _ _).alloc (Nat.le_refl _) _, trivial⟩
      · injection ho with ho; subst ho
        have l1 := (hp ⟨1, .data⟩ (by simp) rfl).1
        have l4 := (hp ⟨4, .data⟩ (by simp) rfl).1
        have h2 : f 2 = _ := (hp ⟨2, .data⟩ (by simp) rfl).2
        obtain ⟨g, h4, hg⟩ := hG.r4 l4 hq
        have h1 := hG.r1 l1 hq
        have hne := hG.ap.ne l1 l4
        rw [h4] at hne
        simp only [h2, h4]
        refine wpOp_go rfl rfl ?_
        go_simp
        refine (insert_calls (f 1) l.length (posE l (xn, xk)) (w.heap.size + 1) g (ens l) (xn, xk) _ h1 (ens_one l) hg (fun e => hne g e rfl) hG.siz (posE_le l _) (by have := HN.out; omega)).mono ?_
        rintro e w7 ⟨v, rfl, ho, hb⟩
        refine ⟨hG.laid v hb, fun h => absurd rfl h, ?_⟩
        show w7.ownsRow _ _ _ _ _ _
        rw [insE_len, insE_ens]
        exact ho
      · injection ho with ho; subst ho
        have h5 := (hp ⟨5, .data⟩ (by simp) rfl).2
        refine wpOp_go rfl rfl (wp_as _ rfl ⟨_, rfl, hG.past 6 _ (by decide) (by decide) (by decide), fun _ => Below.refl _ _, h5⟩)
      · injection ho with ho; subst ho
        refine wpOp_go rfl rfl (wp_as _ rfl ⟨_, rfl, hG.past 7 _ (by decide) (by decide) (by decide), fun _ => Below.refl _ _, rfl⟩)
      · cases ho
    case fin =>
      intro L f w6 hL hG hV
      have h6 := Hd.mk (hV 6 (by simp))
      have h7 : f 7 = _ := hV 7 (by simp)
      have HB6 := Hd.mk hG.bel
      simp only [h7]
      clear hG hV h7
      go_wp2
      go_ret2
      exact ⟨_, rfl, own_lower h6.out (by omega), HB6.out⟩
  · have HI := Hd.mk hi
    have HP : Hd ((posE l (xn, xk) : Int) = (k : Int)) := ⟨by rw [hp]⟩
    clear hi hp hk
    unfold ev
    go_enter Try.func14, Try.ntmps14
    go_wp2_with (first
      | (go_at_call 12; refine (named_calls _ _ hs).mono ?_; rintro e w1 ⟨rfl, hb⟩; rw [HNM.out]; have SZ := Hd.mk (Nat.le_trans SZ.out hb.size); have K0 := Hd.mk (K0.out.below hb K0.out.lt); have HB := Hd.mk (below_then HB.out HB.out.size hb); have hc : w1.cell? ⟨w.heap.size, 0, none⟩ = some (.string xn) := K0.out.cell rfl; clear hb)
      | (go_at_call 29; refine (at_calls A n c l _ _ (HL.out.below HB.out) HE.out (by have := HN.out; omega)).mono ?_; rintro e w2 ⟨rfl, hb⟩; rw [HAT.out]; have SZ := Hd.mk (Nat.le_trans SZ.out hb.size); have K0 := Hd.mk (K0.out.below hb K0.out.lt); have HB := Hd.mk (below_then HB.out HB.out.size hb); clear hb)
      | (go_at_call 30; refine (index_calls A n c l (xn, xk) _ _ (HL.out.below HB.out) K0.out HE.out (by have := HN.out; omega)).mono ?_; rintro e w3 ⟨rfl, hb⟩; rw [HI.out]; have SZ := Hd.mk (Nat.le_trans SZ.out hb.size); have K0 := Hd.mk (K0.out.below hb K0.out.lt); have HB := Hd.mk (below_then HB.out HB.out.size hb); clear hb))
    refine region_famG (fun f => #[Value.slice A n c, Value.agg #[Value.string xn, Value.int .i64 xk], undef, Value.pointer (some ⟨w.heap.size, 0, none⟩), f 6, f 7, Value.int .i64 (k : Int), Value.bool false, Value.pointer (some ⟨w.heap.size, 0, none⟩), Value.string xn, Value.bool true, Value.bool false, Value.bool false, Value.slice A n c, Value.pointer (some ⟨w.heap.size, 0, none⟩), Value.string xn, Value.int .i64 (-1), Value.bool false, Value.slice A n c, Value.func (.func 31) #[] #[Value.pointer (some ⟨w.heap.size, 0, none⟩)], Value.int .i64 (k : Int), Value.int .i64 (k : Int), Value.bool false, undef, undef, f 0, f 1, f 2, f 3, f 4, f 5])
      (PUV A n c (w.heap.size + 1) l (xn, xk)) (PUG w l (xn, xk)) PUR (by kernel_rfl) (by kernel_rfl)
      (fun i => if i = 6 then .slice none 0 0 else if i = 7 then .int .i64 0 else undef) rfl ⟨HB.out.drew, SZ.out, K0.out.drew, nofun, nofun, Apart.start _ _ _ _⟩ ?stab ?put ?step ?fin
    case stab =>
      intro i j w1 w2 v o ho hne haf hR h
      refine PUV_stab i j w1 w2 v hne hR h ?_
      rintro (rfl | rfl)
      · exact Ne.symm (Ne.symm hne)
      · injection ho with ho; subst ho; exact Ne.symm (haf ⟨5, .data⟩ (by simp) rfl)
    case put =>
      intro i o ho f v
      rcases i with _ | _ | _ | _ | _ | _ | _ | _ | i
      all_goals first | (injection ho with ho; subst ho; rfl) | (cases ho)
    case step =>
      intro L q o ho hq f w6 hG hp
      rcases q with _ | _ | _ | _ | _ | _ | _ | _ | q
      · injection ho with ho; subst ho
        refine wpOp_go rfl rfl (wp_mv _ rfl ⟨_, rfl, hG.past 0 _ (by decide) (by decide) (by decide), fun _ => Below.refl _ _, rfl⟩)
      · injection ho with ho; subst ho
        have h0 : f 0 = _ := (hp ⟨0, .data⟩ (by simp) rfl).2
        simp only [h0]
        refine wpOp_go rfl rfl ?_
        go_simp
        refine (clone_calls A n c l _ (HL.out.below hG.bel) HE.out (by have := HN.out; omega)).mono ?_
        rintro e w7 ⟨v, rfl, ho, hb⟩
        refine ⟨hG.clone v ho hb, fun _ => hb, trivial⟩
      · injection ho with ho; subst ho
        refine wpOp_go rfl rfl (wp_mv _ rfl ⟨_, rfl, hG.past 2 _ (by decide) (by decide) (by decide), fun _ => Below.refl _ _, congrArg (Value.int .i64) HP.out.symm⟩)
      · injection ho with ho; subst ho
        refine wpOp_go rfl rfl (wp_ldmid 31 _ rfl w.heap.size 0 rfl (ecs (xn, xk)) _ (blk_range hG.bx) Try.underlying31 rfl (ent_info.trans rfl) ?_)
        exact ⟨_, rfl, hG.past 3 _ (by decide) (by decide) (by decide), fun _ => Below.refl _ _, rfl⟩
      · injection ho with ho; subst ho
        have h3 : f 3 = _ := (hp ⟨3, .data⟩ (by simp) rfl).2
        simp only [h3, ev]
        refine wpOp_go rfl rfl ?_
        go_simp
        exact ⟨hG.built, fun _ => (Below.refl _ _).alloc (Nat.le_refl _) _, trivial⟩
      · injection ho with ho; subst ho
        have l1 := (hp ⟨1, .data⟩ (by simp) rfl).1
        have l4 := (hp ⟨4, .data⟩ (by simp) rfl).1
        have h2 : f 2 = _ := (hp ⟨2, .data⟩ (by simp) rfl).2
        obtain ⟨g, h4, hg⟩ := hG.r4 l4 hq
        have h1 := hG.r1 l1 hq
        have hne := hG.ap.ne l1 l4
        rw [h4] at hne
        simp only [h2, h4]
        refine wpOp_go rfl rfl ?_
        go_simp
        refine (insert_calls (f 1) l.length (posE l (xn, xk)) (w.heap.size + 1) g (ens l) (xn, xk) _ h1 (ens_one l) hg (fun e => hne g e rfl) hG.siz (posE_le l _) (by have := HN.out; omega)).mono ?_
        rintro e w7 ⟨v, rfl, ho, hb⟩
        refine ⟨hG.laid v hb, fun h => absurd rfl h, ?_⟩
        show w7.ownsRow _ _ _ _ _ _
        rw [insE_len, insE_ens]
        exact ho
      · injection ho with ho; subst ho
        have h5 := (hp ⟨5, .data⟩ (by simp) rfl).2
        refine wpOp_go rfl rfl (wp_as _ rfl ⟨_, rfl, hG.past 6 _ (by decide) (by decide) (by decide), fun _ => Below.refl _ _, h5⟩)
      · injection ho with ho; subst ho
        refine wpOp_go rfl rfl (wp_as _ rfl ⟨_, rfl, hG.past 7 _ (by decide) (by decide) (by decide), fun _ => Below.refl _ _, rfl⟩)
      · cases ho
    case fin =>
      intro L f w6 hL hG hV
      have h6 := Hd.mk (hV 6 (by simp))
      have h7 : f 7 = _ := hV 7 (by simp)
      have HB6 := Hd.mk hG.bel
      simp only [h7]
      clear hG hV h7
      go_wp2
      go_ret2
      exact ⟨_, rfl, own_lower h6.out (by omega), HB6.out⟩
end Go.Proofs.Ytiloeaenpanjcaa
