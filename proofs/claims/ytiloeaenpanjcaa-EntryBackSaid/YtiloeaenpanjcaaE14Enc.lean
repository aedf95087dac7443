/- Walks: entries as bytes, by the program. -/
import Derived.Test.YtiloeaenpanjcaaCPad
import Derived.Test.YtiloeaenpanjcaaCGet
import Derived.Test.YtiloeaenpanjcaaBase8
import Derived.Test.YtiloeaenpanjcaaE14Right
namespace Go.Proofs.Ytiloeaenpanjcaa
open Go.RowKit Go.Sac
set_option linter.unusedVariables false
set_option linter.unusedSimpArgs false

def encE (x : Ent) : List UInt8 := ([UInt8.ofNat x.1.size] ++ padB x.1.data.toList 27) ++ putB x.2.toNat 4
def encRows (l : List Ent) : List UInt8 := (l.map encE).flatten
def encB (l : List Ent) : List UInt8 := if rightE l = true then encRows l else []
def encR (l : List Ent) : Int := if rightE l = true then 0 else 2
/-- bytes, and an error -/
def RetE (l : List UInt8) (er : Int) (w : World) (e : Ending) (w' : World) : Prop := ∃ v, e = .returned (.tuple #[v, .int .i64 er]) ∧ w'.ownsRow w.heap.size 5 1 v l.length (bs l) ∧ Below w.heap.size w w'
theorem named_len {x : ByteArray} (h : namedL x.data.toList = true) : 1 ≤ x.size ∧ x.size ≤ 27 := by
  have hl : x.data.toList.length = x.size := by simp
  unfold namedL at h
  rw [hl] at h
  simp only [Bool.and_eq_true, decide_eq_true_eq, Bool.not_eq_true'] at h
  refine ⟨?_, h.2.2.1⟩
  cases hx : x.data.toList with
  | nil => rw [hx] at h; simp at h
  | cons a r => rw [hx] at hl; simp at hl; omega
theorem padB_len (l : List UInt8) (m : Nat) (h : l.length ≤ m) : (padB l (m : Int)).length = m := by
  unfold padB; simp; omega
theorem encE_len {x : Ent} (h : x.1.size ≤ 27) : (encE x).length = 32 := by
  have hl : x.1.data.toList.length = x.1.size := by simp
  unfold encE
  rw [List.length_append, List.length_append, putB_len, show (27 : Int) = ((27 : Nat) : Int) from rfl, padB_len _ _ (by omega)]
  rfl
theorem encRows_len : ∀ (l : List Ent), (∀ y ∈ l, y.1.size ≤ 27) → (encRows l).length = l.length * 32
  | [], _ => rfl
  | x :: r, h => by
    have := encRows_len r (fun y hy => h y (List.mem_cons_of_mem _ hy))
    unfold encRows at this ⊢
    rw [List.map_cons, List.flatten_cons, List.length_append, this, encE_len (h x (List.mem_cons_self ..)), List.length_cons]
    omega
theorem encRows_snoc (l : List Ent) (i : Nat) (h : i < l.length) : encRows (l.take (i + 1)) = encRows (l.take i) ++ encE l[i] := by
  unfold encRows
  rw [List.take_succ_eq_append_getElem h, List.map_append, List.flatten_append]
  simp
theorem pad_len (A : Option Addr) (n c : Nat) (l : List UInt8) (wide : Int) (w : World) (hl : Rc w A (bs l)) (e1 : n = l.length) (hn : l.length ≤ 1099511627776) (h0 : -1099511627776 ≤ wide) (h1 : wide ≤ 1099511627776) :
    Calls Try.prog 37 #[.slice A n c, .int .i64 wide] w fun e w' => RetB 5 (padB l wide) w e w' := by
  subst e1; exact pad_calls A c l wide w hl hn h0 h1
theorem box_kept {W w1 : World} {g : Nat} {E : TypeId} {cs : List Value} {v v1 : Value} (hk : Blk W g E cs) (hne : v.ownBlock ≠ some g) (hg : W.grownBy w1 v.ownBlock) (hat : v1.ownBlock = v.ownBlock ∨ v1.ownBlock = some W.heap.size) : Blk w1 g E cs ∧ v1.ownBlock ≠ some g := by
  refine ⟨hk.grown hg (fun e => hne e.symm), ?_⟩
  rcases hat with h | h
  · rw [h]; exact hne
  · rw [h]; intro e; have := Option.some.inj e; have := hk.lt; omega
theorem byte_len (n : Nat) (h : n ≤ 27) : bs [UInt8.ofNat n] = [Value.int .u8 (n : Int)] := by
  simp only [bs, List.map_cons, List.map_nil, u8v, UInt8.toNat_ofNat']
  rw [Nat.mod_eq_of_lt (by omega)]
set_option maxHeartbeats 8000000 in
set_option maxRecDepth 100000 in
theorem encode_calls (A : Option Addr) (n c : Nat) (l : List Ent) (w : World) (hl : Rc w A (ens l)) (e1 : n = l.length) (hn : l.length ≤ 5864062014634) (hs : ∀ y ∈ l, y.1.size ≤ 140737488351232) :
    Calls Try.prog 23 #[.slice A n c] w (RetE (encB l) (encR l) w) := by
  have HL := Hd.mk hl
  have HE := Hd.mk e1
  have HS := Hd.mk hs
  have HN := Hd.mk hn
  cases hr : rightE l
  · have e2 : encB l = [] := by unfold encB; rw [hr]; rfl
    have e3 : encR l = 2 := by unfold encR; rw [hr]; rfl
    rw [e2, e3]
    have HR := Hd.mk hr
    clear hl e1 hs hn e2 e3 hr
    go_enter Try.func23, Try.ntmps23
    go_wp2_with (go_at_call 36; refine (right_calls A n c l _ HL.out HE.out HN.out HS.out).mono ?_; rintro e w1 ⟨rfl, hb⟩; rw [HR.out]; have HB := Hd.mk hb; clear hb)
    go_ret2
    exact ⟨_, rfl, World.ownsRow_nil _ _ _ _, HB.out⟩
  · have e2 : encB l = encRows l := by unfold encB; rw [hr]; rfl
    have e3 : encR l = 0 := by unfold encR; rw [hr]; rfl
    rw [e2, e3]
    have HR := Hd.mk hr
    obtain ⟨h560, _, hall⟩ := right_is hr
    have HALL := Hd.mk hall
    have H27 : Hd (∀ y ∈ l, y.1.size ≤ 27) := ⟨fun y hy => (named_len (hall y hy).1).2⟩
    have hn560 : n ≤ 560 := by omega
    clear hl e1 hs hn e2 e3 hr hall h560
    go_enter Try.func23, Try.ntmps23
    go_wp2_with (go_at_call 36; refine (right_calls A n c l _ HL.out HE.out HN.out HS.out).mono ?_; rintro e w1 ⟨rfl, hb⟩; rw [HR.out]; have HB := Hd.mk hb; clear hb)
    go_loopw [4, 12] (fun ov iv wr => ∃ (i m : Nat) (X : List UInt8), iv = .int .i64 (i : Int) ∧ i ≤ n ∧ Hd (m = i * 32) ∧ Hd (encRows (l.take i) = X) ∧ Hd (X.length = m) ∧ Hd (wr.ownsRow w.heap.size 5 1 ov m (bs X)) ∧ Hd (Below w.heap.size w wr)) (fun _ iv _ => n - (intOf iv).toNat)
    case atStart => exact ⟨0, 0, [], rfl, Nat.zero_le _, ⟨rfl⟩, ⟨rfl⟩, ⟨rfl⟩, ⟨World.ownsRow_nil _ _ _ _⟩, HB⟩
    case round =>
      clear HB
      obtain ⟨i, m, X, rfl, hi, HMI, HX, HXL, HO, HB⟩ := hrel
      obtain ⟨OA, oc, rfl, _, _, _⟩ := own_rc HO.out
      by_cases hlt : i < n
      · have hil : i < l.length := by rw [← HE.out]; exact hlt
        have hil2 : (i : Int) < (n : Int) := by omega
        have hmb : m ≤ 20000 := by have := HMI.out; omega
        obtain ⟨b, off, rfl, hb, hr⟩ := rcK_form ecs_len (by decide) HL.out (by omega)
        have hxc := hr i hil wr HB.out
        have hst := encRows_snoc l i hil
        have hm27 := H27.out _ (List.getElem_mem hil)
        have hnod := (HALL.out _ (List.getElem_mem hil)).2
        have hel := encE_len hm27
        rw [HX.out] at hst
        obtain ⟨⟨xn, xk⟩, hx0⟩ : ∃ x, l[i] = x := ⟨_, rfl⟩
        rw [hx0] at hxc hst hm27 hnod hel
        dsimp only at hm27 hnod
        obtain ⟨hk1, hk2⟩ := hnod
        have HXC := Hd.mk hxc
        have HST := Hd.mk hst
        have HEL := Hd.mk hel
        have hw64 : IntKind.u64.wrap xk = xk := by rw [IntKind.wrap_u64]; omega
        have h27 : (padB xn.data.toList 27).length = 27 := by
          have := padB_len xn.data.toList 27 (by simp; omega)
          exact this
        obtain ⟨Y, hY⟩ : ∃ Y, padB xn.data.toList 27 = Y := ⟨_, rfl⟩
        obtain ⟨Z, hZ⟩ : ∃ Z, putB xk.toNat 4 = Z := ⟨_, rfl⟩
        have hZl : Z.length = 4 := by rw [← hZ, putB_len]
        rw [hY] at h27
        have HY := Hd.mk hY
        have HZ := Hd.mk hZ
        have HYL := Hd.mk h27
        have HZL := Hd.mk hZl
        have HEE : Hd (encE (xn, xk) = ([UInt8.ofNat xn.size] ++ Y) ++ Z) := ⟨by unfold encE; dsimp only; rw [hY, hZ]⟩
        have hby := byte_len xn.size hm27
        obtain ⟨q, hq⟩ : ∃ q : UInt8, UInt8.ofNat xn.size = q := ⟨_, rfl⟩
        rw [hq] at hby HEE
        have HQ := Hd.mk hby
        clear hby
        have hsz : xn.data.toList.length = xn.size := by simp
        have HSZ := Hd.mk hsz
        have K0 : Hd (Blk (wr.alloc (.cells #[.string xn, .int .i64 xk] 31)) wr.heap.size 31 (ecs (xn, xk))) := ⟨Blk.new wr _ _⟩
        have hc0 : (wr.alloc (.cells #[.string xn, .int .i64 xk] 31)).cell? ⟨wr.heap.size, 0, none⟩ = some (.string xn) := K0.out.cell rfl
        have NE : Hd (Value.ownBlock (.slice OA m oc) ≠ some wr.heap.size) := ⟨fun e => by have := (own_lt HO.out _ e).2; omega⟩
        have HO := Hd.mk (own_alloc HO.out (.cells #[.string xn, .int .i64 xk] 31))
        have HB := Hd.mk (HB.out.alloc HB.out.size (.cells #[.string xn, .int .i64 xk] 31))
        have R1 : Hd (Rc ((wr.alloc (.cells #[.string xn, .int .i64 xk] 31)).alloc (.cells #[Value.int .u8 (xn.size : Int)] 5)) (some ⟨wr.heap.size + 1, 0, none⟩) (bs [q])) := ⟨by rw [HQ.out]; have h := (Blk.new (wr.alloc (.cells #[.string xn, .int .i64 xk] 31)) 5 [Value.int .u8 (xn.size : Int)]).rc; rw [World.size_alloc] at h; exact h⟩
        have T1 : Hd True := ⟨trivial⟩
        have T2 : Hd True := ⟨trivial⟩
        clear hr hb hxc hst hel hx0 hY hZ h27 hZl hq hil hsz
        go_wp2_with (first
          | (refine wpList_ldmid rfl 31 (.tmp 14) rfl b (off + i * 2) rfl [.string xn, .int .i64 xk] _ HXC.out Try.underlying31 rfl (ent_info.trans rfl) ?_)
          | (clear T1; at_builtin; refine app_rc w.heap.size 42 5 (.int .u8 0) 1 1 (.tmp 16) (.tmp 21) rfl rfl Try.underlying42 info_u8 rfl (by decide) (by decide) _ m (bs X) (bs [q]) _ 1 1 rfl rfl (own_alloc HO.out _) R1.out rfl bs_one (by rw [World.size_alloc]; have := HB.out.size; omega) (by omega) (m + 1) (bs (X ++ [q])) rfl (by simp) ?_
             intro v1 w1 ho hg hat
             obtain ⟨k1, ne1⟩ := box_kept (K0.out.alloc _) NE.out hg hat
             have HB := Hd.mk (below_lift (HB.out.alloc HB.out.size _) (by rw [World.size_alloc]; have := HB.out.size; omega) hg (fun p hp => (own_lt HO.out p hp).1))
             have K0 := Hd.mk k1; have NE := Hd.mk ne1; have HO := Hd.mk ho; have hc1 : w1.cell? ⟨wr.heap.size, 0, none⟩ = some (.string xn) := K0.out.cell rfl; clear ho hg hat k1 ne1)
          | (refine wpList_bytes rfl 9 42 5 (.tmp 25) rfl xn rfl Try.underlying9 Try.underlying42 Try.underlying5 ?_; intro cb W1 hrr hbb hcc hzz; have HRB := Hd.mk hrr; have K0 := Hd.mk (K0.out.below hbb K0.out.lt); have HO := Hd.mk (own_below HO.out hbb); have HB := Hd.mk (below_then HB.out HB.out.size hbb); clear hrr hbb hzz)
          | (go_at_call 37; refine (pad_len _ _ _ _ 27 _ HRB.out HSZ.out.symm (by have := HSZ.out; omega) (by decide) (by decide)).mono ?_; rw [HY.out]; rintro e w2 ⟨v2, rfl, ho, hb⟩; obtain ⟨A2, c2, rfl, _, hr2, _⟩ := own_rc ho; rw [HYL.out]; have R2 := Hd.mk hr2; have K0 := Hd.mk (K0.out.below hb K0.out.lt); have HO := Hd.mk (own_below HO.out hb); have HB := Hd.mk (below_then HB.out HB.out.size hb); clear hb ho hr2)
          | (clear T2; at_builtin; refine app_rc w.heap.size 42 5 (.int .u8 0) 1 1 (.tmp 23) (.tmp 27) rfl rfl Try.underlying42 info_u8 rfl (by decide) (by decide) _ (m + 1) (bs (X ++ [q])) (bs Y) _ 27 c2 rfl rfl HO.out R2.out (by rw [bs_len, HYL.out]) bs_one HB.out.size (by omega) (m + 28) (bs ((X ++ [q]) ++ Y)) (by omega) (by simp) ?_
             intro v3 w3 ho hg hat
             obtain ⟨k1, ne1⟩ := box_kept K0.out NE.out hg hat
             have HB := Hd.mk (below_lift HB.out HB.out.size hg (fun p hp => (own_lt HO.out p hp).1))
             have K0 := Hd.mk k1; have NE := Hd.mk ne1; have HO := Hd.mk ho; have hc3 : w3.cell? ⟨wr.heap.size, 1, none⟩ = some (.int .i64 xk) := K0.out.cell rfl; clear ho hg hat k1 ne1)
          | (go_at_call 38; refine (put_any xk 4 _ (by omega)).mono ?_; rw [show putW 4 = 4 by decide, HZ.out]; rintro e w4 ⟨v4, rfl, ho, hb⟩; obtain ⟨A4, c4, rfl, _, hr4, _⟩ := own_rc ho; rw [HZL.out]; have R4 := Hd.mk hr4; have HO := Hd.mk (own_below HO.out hb); have HB := Hd.mk (below_then HB.out HB.out.size hb); clear hb ho hr4)
          | (at_builtin; refine app_rc w.heap.size 42 5 (.int .u8 0) 1 1 (.tmp 29) (.tmp 33) rfl rfl Try.underlying42 info_u8 rfl (by decide) (by decide) _ (m + 28) (bs ((X ++ [q]) ++ Y)) (bs Z) _ 4 c4 rfl rfl HO.out R4.out (by rw [bs_len, HZL.out]) bs_one HB.out.size (by omega) (m + 32) (bs (((X ++ [q]) ++ Y) ++ Z)) (by omega) (by simp) ?_
             intro v5 w5 ho hg hat
             have HB := Hd.mk (below_lift HB.out HB.out.size hg (fun p hp => (own_lt HO.out p hp).1))
             have HO := Hd.mk ho; clear ho hg hat))
        go_roundw
        case rel =>
          refine ⟨i + 1, m + 32, ((X ++ [q]) ++ Y) ++ Z, by go_num, by omega, ⟨by have := HMI.out; omega⟩, ⟨?_⟩, ⟨?_⟩, HO, HB⟩
          · rw [HST.out, HEE.out]; simp
          · simp [HXL.out, HYL.out, HZL.out]
        case measure => simp [intOf]; omega
      · obtain rfl : i = n := by omega
        have HA : Hd (encRows l = X) := ⟨by rw [← HX.out, HE.out, List.take_of_length_le (Nat.le_refl _)]⟩
        go_wp2
        go_ret2
        refine ⟨_, rfl, ?_, HB.out⟩
        rw [HA.out, HXL.out]
        exact HO.out
end Go.Proofs.Ytiloeaenpanjcaa
