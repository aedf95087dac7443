/- W06Write: a slot is written. -/
import Derived.Test.YtffhncpgknkkaaaBase13
import Derived.Test.YtffhncpgknkkaaaW06Read
namespace Go.Proofs.Ytffhncpgknkkaaa
open Go.RowKit Go.Sac
set_option linter.unusedVariables false
set_option linter.unusedSimpArgs false
theorem setCells_other (g k : Nat) (hne : k ≠ g) : ∀ (vs : List Value) (o : Nat) (w : World), (w.setCells g o vs).heap[k]? = w.heap[k]?
  | [], o, w => rfl
  | v :: r, o, w => (setCells_other g k hne r (o + 1) _).trans (Below.heap_setCell w ⟨g, o, none⟩ v k hne)
theorem setCells_same (g : Nat) : ∀ (vs : List Value) (o : Nat) (w : World), (w.setCells g o vs).heap.size = w.heap.size ∧ (w.setCells g o vs).os = w.os ∧ (w.setCells g o vs).tape = w.tape ∧ (w.setCells g o vs).output = w.output
  | [], o, w => ⟨rfl, rfl, rfl, rfl⟩
  | v :: r, o, w => by
    obtain ⟨h1, h2, h3, h4⟩ := setCells_same g r (o + 1) (w.setCell ⟨g, o, none⟩ v)
    exact ⟨h1.trans (by simp), h2, h3, h4⟩
theorem wp_cpy {P : Program} {o : Oper} {a : Act} {w : World} {K : Act → World → Prop} {Q : Exit → Act → World → Prop} (d s : Operand) (t t' : TypeId) (ho : o.op = .call { callee := .builtin .copy, args := #[d, s], argTypes := #[t, t'] }) (v u : Value) (hd : a.eval d = v) (hs : a.eval s = u) {v' : Value} {w' : World}
    (hr : (Builtin.copy_ #[t, t'] o.type #[v, u]).run P w = .ok v' w') (h : K (a.put o.dst v') w') : o.wp P a w K Q := by
  unfold Oper.wp execOp
  simp only [ho, resolve, invoke, builtin, Sem.run_bind, Sem.run_pure, Result.andThen_ok, List.map_toArray, List.map_cons, List.map_nil, hd, hs, hr]
  exact h
theorem pad_any (A : Option Addr) (n c : Nat) (l : List UInt8) (wide : Int) (w : World) (hl : Rc w A (bs l)) (e : n = l.length) (hn : l.length ≤ 1099511627776) (h0 : -1099511627776 ≤ wide) (h1 : wide ≤ 1099511627776) :
    Calls Try.prog 35 #[.slice A n c, .int .i64 wide] w fun e w' => RetB 5 (padB l wide) w e w' := by subst e; exact pad_calls A c l wide w hl hn h0 h1
section
variable {w : World} {g : Nat} {K : Nat → Nat} {c : Wc} {s : Wd}
def wideW (b : List UInt8) : List UInt8 := (padB b 272).take 272
theorem wideW_len (b : List UInt8) : (wideW b).length = 272 := by unfold wideW padB; simp; omega
def overB (old xs : List UInt8) : List UInt8 := xs ++ old.drop xs.length
def putP (s : Wd) (p : Int × Int) (xs : List UInt8) : Wd := { s with slots := fun q => if q = p then overB (s.slots q) xs else s.slots q }
theorem put_end (h : WdAt w g K c s) {p : Int × Int} {q : Nat} (hq : c.F p = some q) (xs : List UInt8) (hx : xs.length ≤ 272) : WdAt (w.setCells q 0 (bs xs)) g K c (putP s p xs) ∧ Stp K K w (w.setCells q 0 (bs xs)) := by
  have h4 := (h.hs p q hq).1
  obtain ⟨z1, z2, z3, z4⟩ := setCells_same q (bs xs) 0 w
  have blk : ∀ k, K k ≠ 4 → (w.setCells q 0 (bs xs)).heap[k]? = w.heap[k]? := fun k hk => setCells_other q k (fun e => hk (by rw [e]; exact h4)) _ _ _
  have row : ∀ {A : Option Addr} {l : List UInt8} {n : Nat}, Row6 w K A l n → Row6 (w.setCells q 0 (bs xs)) K A l n := fun r => r.keep fun k _ h6 => blk k (by omega)
  have hsp : splice (bs (s.slots p)) 0 (bs xs) = bs (overB (s.slots p) xs) := by
    unfold splice overB
    simp [bs]
  refine ⟨?_, ⟨z2, z3, z4, Nat.le_of_eq z1.symm, fun k hk h0 => blk k (by omega), fun _ _ h => h⟩⟩
  exact {
    obj := (blk g (by rw [h.kg]; decide)).trans h.obj
    kg := h.kg
    krs := h.krs
    krl := h.krl
    ms := map_keep h.ms (blk _ (by rw [h.krs]; decide))
    len := fun r => by
      show (if r = p then overB (s.slots r) xs else s.slots r).length = 272
      have := h.len r
      split
      · unfold overB; simp; omega
      · exact this
    hs := fun r b hb => by
      have h1 := h.hs r b hb
      refine ⟨h1.1, ?_⟩
      by_cases e : r = p
      · subst e
        have e2 : b = q := by rw [hq] at hb; exact (Option.some.inj hb).symm
        subst e2
        show Blk _ b 96 (bs (if r = r then overB (s.slots r) xs else s.slots r))
        rw [if_pos rfl, ← hsp]
        exact Blk.setCells _ _ _ _ h1.2 (by rw [bs_len, bs_len, h.len]; omega)
      · show Blk _ b 96 (bs (if r = p then overB (s.slots r) xs else s.slots r))
        rw [if_neg e]
        exact (setCells_other q b (fun e2 => e (h.inj r p b hb (by rw [hq, e2]))) _ _ _).trans h1.2
    h0 := fun r hr => by
      show (if r = p then overB (s.slots r) xs else s.slots r) = nought
      rw [if_neg (fun e => by rw [e, hq] at hr; cases hr)]
      exact h.h0 r hr
    inj := h.inj
    ml := map_keep h.ml (blk _ (by rw [h.krl]; decide))
    hl := fun n x hx => let ⟨l, h1, h2⟩ := h.hl n x hx; ⟨l, h1, row h2⟩
    hn := h.hn
    q0 := row h.q0
    q1 := row h.q1
    tr := own_keep h.tr fun k hk => by have h5 := h.kt k hk; exact blk k (by omega)
    kt := h.kt
    th := fun x hx => row (h.th x hx)
    tv := h.tv
    dom := fun k hk => by rw [z1]; exact h.dom k hk
    num := h.num }
theorem run_copy_u8 (w : World) (q : Nat) (a : Addr) (m c5 : Nat) (xs : List UInt8) (old : List UInt8) (hb : Blk w q 96 (bs old)) (ho : old.length = 272) (hx : xs.length = m) (hm : m ≤ 272) (hr : Rc w (some a) (bs xs)) (ty : TypeId) :
    (Builtin.copy_ #[22, 22] ty #[.slice (some ⟨q, 0, none⟩) 272 272, .slice (some a) m c5]).run Try.prog w = .ok (goInt m) (w.setCells q 0 (bs xs)) := by
  have hi : (Try.prog.info? 5).map (·.size) = some 1 := by kernel_rfl
  refine run_copy_k w 22 22 ty 5 q 0 272 272 a m c5 1 m (bs xs) Try.underlying22 hi (by show min m 272 = m; omega) (by rw [bs_len, hx]; omega) (rc_add hr rfl) (fun j hj => ?_) (fun j hj => by rw [Nat.zero_add]; exact hb.frz j) bs_one
  rw [bs_len, hx] at hj
  rw [Nat.zero_add]
  have := hb.cell (i := j) (bs_at (l := old) (show j < old.length by omega))
  rw [this]; rfl
/-- the region's worlds -/
structure GW (w0 : World) (g : Nat) (K : Nat → Nat) (c : Wc) (s : Wd) (p : Int × Int) (xs : List UInt8) (L : Nat → Bool) (w : World) (f : Nat → Value) : Prop where
  f0 : L 3 = false → w = w0
  f1 : L 3 = true → L 8 = false → ∃ K1 F1 q, f 3 = .pointer (some ⟨q, 0, none⟩) ∧ F1 p = some q ∧ WdAt w g K1 { c with F := F1 } s ∧ Stp K K1 w0 w ∧ ∀ k, K k ≠ 0 → K1 k = K k
  f2 : L 3 = true → L 8 = true → L 10 = false → ∃ K1 F1 q, f 3 = .pointer (some ⟨q, 0, none⟩) ∧ F1 p = some q ∧ WdAt w g K1 { c with F := F1 } (takesP s 272) ∧ Stp K K1 w0 w ∧ ∀ k, K k ≠ 0 → K1 k = K k
  f3 : L 10 = true → ∃ K1 c1, WdAt w g K1 c1 (putP (takesP s 272) p xs) ∧ Stp K K1 w0 w ∧ ∀ k, K k ≠ 0 → K1 k = K k
  e4 : L 3 = true → L 4 = true → f 4 = f 3
  e5 : L 3 = true → L 5 = true → ∃ q, f 3 = .pointer (some ⟨q, 0, none⟩) ∧ f 5 = .slice (some ⟨q, 0, none⟩) 272 272
theorem GW.past {w0 w : World} {p : Int × Int} {xs : List UInt8} {L : Nat → Bool} {f : Nat → Value} (h : GW w0 g K c s p xs L w f) (i : Nat) (v : Value) (h3 : 3 ≠ i) (h4 : 4 ≠ i) (h5 : 5 ≠ i) (h8 : 8 ≠ i) (h10 : 10 ≠ i) : GW w0 g K c s p xs (fun j => j == i || L j) w (upd f i v) := by
  have e3 : (3 == i || L 3) = L 3 := by simp [h3]
  have e4 : (4 == i || L 4) = L 4 := by simp [h4]
  have e5 : (5 == i || L 5) = L 5 := by simp [h5]
  have e8 : (8 == i || L 8) = L 8 := by simp [h8]
  have e10 : (10 == i || L 10) = L 10 := by simp [h10]
  refine ⟨fun x => h.f0 (e3 ▸ x), fun x y => ?_, fun x y z => ?_, fun x => h.f3 (e10 ▸ x), fun x y => ?_, fun x y => ?_⟩
  · rw [upd_ne _ _ _ _ h3]; exact h.f1 (e3 ▸ x) (e8 ▸ y)
  · rw [upd_ne _ _ _ _ h3]; exact h.f2 (e3 ▸ x) (e8 ▸ y) (e10 ▸ z)
  · rw [upd_ne _ _ _ _ h3, upd_ne _ _ _ _ h4]; exact h.e4 (e3 ▸ x) (e4 ▸ y)
  · rw [upd_ne _ _ _ _ h3, upd_ne _ _ _ _ h5]; exact h.e5 (e3 ▸ x) (e5 ▸ y)
theorem GW.q {w0 w : World} {p : Int × Int} {xs : List UInt8} {L : Nat → Bool} {f : Nat → Value} (h : GW w0 g K c s p xs L w f) (l3 : L 3 = true) (l10 : L 10 = false) : ∃ q, f 3 = .pointer (some ⟨q, 0, none⟩) := by
  cases h8 : L 8 with
  | true => obtain ⟨_, _, q, h1, _⟩ := h.f2 l3 h8 l10; exact ⟨q, h1⟩
  | false => obtain ⟨_, _, q, h1, _⟩ := h.f1 l3 h8; exact ⟨q, h1⟩
/-- what the region yields -/
def VW (g : Nat) (a b : Int) (ad : Addr) (c5 m : Nat) (i : Nat) (w : World) (v : Value) : Prop :=
  match i with
  | 0 => v = Value.pointer (some ⟨g, 0, none⟩)
  | 1 => v = Value.int .i64 a
  | 2 => v = Value.int .i64 b
  | 6 => v = Value.slice (some ad) 272 c5
  | 7 => v = Value.pointer (some ⟨g, 0, none⟩)
  | 8 => v = Value.int .i64 (m : Int)
  | 9 => v = Value.slice (some ad) m c5
  | _ => True
def writeS (s : Wd) (a b : Int) (bb : List UInt8) : Wd := takesP (noteP s 2 a b bb) 272
def writeP (s : Wd) (a b : Int) (bb : List UInt8) : Wd := if thereP s a b = true then putP (writeS s a b bb) (a, b) ((wideW bb).take (takesK s 272).toNat) else s
def writeR (s : Wd) (a b : Int) (bb : List UInt8) : Bool := thereP s a b && !(writeS s a b bb).dead
/-- a world went on, and told whether it was done -/
def RetD (g : Nat) (K : Nat → Nat) (s' : Wd) (r : Bool) (w : World) (e : Ending) (w' : World) : Prop :=
  e = .returned (.bool r) ∧ ∃ K' c', WdAt w' g K' c' s' ∧ Stp K K' w w' ∧ ∀ k, K k ≠ 0 → K' k = K k
theorem takes_le (h : WdAt w g K c s) : ∃ m : Nat, takesK s 272 = (m : Int) ∧ m ≤ 272 := by
  have h1 := h.num.2.2.2.1
  unfold takesK
  split
  · exact ⟨(min 272 s.power).toNat, by omega, by omega⟩
  · exact ⟨272, rfl, Nat.le_refl _⟩
set_option maxRecDepth 100000 in
set_option maxHeartbeats 4000000 in
theorem write_calls (h0 : WdAt w g K c s) (hf : Few s) (a b : Int) (AB : Option Addr) (n cap : Nat) (bb : List UInt8) (hr : Rc w AB (bs bb)) (hA : ∀ ad, AB = some ad → bb ≠ [] → K ad.block = 0) (e : n = bb.length) (hn : bb.length ≤ 1099511627776) :
    Calls Try.prog 12 #[.pointer (some ⟨g, 0, none⟩), .int .i64 a, .int .i64 b, .slice AB n cap] w (RetD g K (writeP s a b bb) (writeR s a b bb) w) := by
  have HW0 := Hd.mk h0
  cases ht : thereP s a b
  · have H1 : Hd (writeP s a b bb = s ∧ writeR s a b bb = false) := ⟨by unfold writeP writeR; rw [ht]; exact ⟨rfl, rfl⟩⟩
    have HT := Hd.mk ht
    clear h0 hf ht hr hA e hn
    go_enter Try.func12, Try.ntmps12
    go_wp2_with (go_at_call 33; refine (there_calls HW0.out a b).mono ?_; rw [HT.out]; rintro e w1 ⟨rfl, hw⟩; obtain rfl := hw.symm)
    go_ret
    rw [H1.out.1, H1.out.2]
    exact ⟨rfl, K, c, HW0.out, Stp.refl _ _, fun _ _ => rfl⟩
  · have H1 : Hd (writeP s a b bb = putP (writeS s a b bb) (a, b) ((wideW bb).take (takesK s 272).toNat) ∧ writeR s a b bb = !(writeS s a b bb).dead) := ⟨by unfold writeP writeR; rw [ht]; exact ⟨rfl, rfl⟩⟩
    have HT := Hd.mk ht
    have HTR := Hd.mk hf.trace
    have HR := Hd.mk hr
    have HAF := Hd.mk hA
    have HN := Hd.mk e
    have HNB := Hd.mk hn
    clear h0 hf ht hr hA e hn
    go_enter Try.func12, Try.ntmps12
    obtain ⟨m, hm, hm2⟩ := takes_le HW0.out
    have HMK := Hd.mk hm
    have HM2N := Hd.mk hm2
    have hm3 : (m : Int) ≤ 272 := by omega
    have HM2 := Hd.mk hm3
    have HM1 : Hd ((0 : Int) ≤ (m : Int)) := ⟨by omega⟩
    clear hm hm2 hm3
    have hpl : 272 ≤ (padB bb 272).length := by unfold padB; simp; omega
    have HPL := Hd.mk hpl
    clear hpl
    go_wp2_with (first
      | (go_at_call 33; refine (there_calls HW0.out a b).mono ?_; rw [HT.out]; rintro e w1 ⟨rfl, hw⟩; obtain rfl := hw.symm)
      | (go_at_call 34; refine (note_calls HW0.out 2 a b AB n cap bb HR.out (fun ad e hb => by rw [HAF.out ad e hb]; decide) HN.out HNB.out (by rw [T_len HW0.out]; exact HTR.out)).mono ?_
         rintro e w3 ⟨rfl, K3, v3, x3, hw3, hs3, hk3⟩
         have HW3 := Hd.mk hw3; have HS3 := Hd.mk hs3; have HK3 := Hd.mk hk3
         clear hw3 hs3 hk3)
      | (go_at_call 35; refine (pad_any AB n cap bb 272 _ (HS3.out.rc HR.out (fun ad e hb => HAF.out ad e (bs_nil hb))) HN.out HNB.out (by decide) (by decide)).mono ?_
         rintro e w4 ⟨v4, rfl, ho, hb⟩
         obtain ⟨A5, c5, rfl, hc5, hr5, hn5⟩ := own_rc ho
         obtain ⟨ad, hAd⟩ : ∃ ad, A5 = some ad := by obtain ⟨b5, off5, e, _⟩ := hr5.form (by rw [bs_len]; have := HPL.out; omega); exact ⟨_, e⟩
         subst hAd
         have hc5i : (272 : Int) ≤ (c5 : Int) := by have := HPL.out; omega
         have HCC : Hd (272 ≤ c5) := ⟨by omega⟩
         have HR5 : Hd (Rc w4.drew (some ad) (bs (wideW bb))) := ⟨by unfold wideW; rw [bs, List.map_take]; exact (hr5.take 272).drew⟩
         have HA5 : Hd (∀ a', some ad = some a' → K3 a'.block = 0) := ⟨fun a' e => by
           have h1 := (hn5 a' e).1
           by_cases e0 : K3 a'.block = 0
           · exact e0
           · have := HW3.out.dom _ e0; omega⟩
         have HS4 : Hd (Stp K K3 w w4.drew) := ⟨HS3.out.trans (Stp.of_below (hb.trans ((Below.refl _ w4).drew)))⟩
         have HW := Hd.mk (HW3.out.below (hb.trans ((Below.refl _ w4).drew)))
         clear ho hb hc5 hr5 hn5))
    obtain ⟨c3, hc3⟩ : ∃ c3, { c with vt := v3, T := c.T ++ [x3] } = c3 := ⟨_, rfl⟩
    have HM : Hd (takesK (noteP s 2 a b bb) 272 = (m : Int)) := ⟨HMK.out⟩
    rw [hc3] at HW
    have HK := HK3
    have H2 : Hd (writeP s a b bb = putP (takesP (noteP s 2 a b bb) 272) (a, b) ((wideW bb).take m) ∧ writeR s a b bb = !(takesP (noteP s 2 a b bb) 272).dead) := ⟨by rw [H1.out.1, H1.out.2, HMK.out]; exact ⟨rfl, rfl⟩⟩
    obtain ⟨s3, hs3⟩ : ∃ s3, noteP s 2 a b bb = s3 := ⟨_, rfl⟩
    rw [hs3] at HW HM H2
    clear hc3 hs3 HW3 HS3 HK3 H1 HMK HR HAF HTR HT HN
    refine region_stp (VW g a b ad c5 m) (GW w4.drew g K3 c3 s3 (a, b) ((wideW bb).take m)) NoR (by kernel_rfl) (by kernel_rfl) (by kernel_rfl) (by kernel_rfl) (fun _ => ⟨fun _ => rfl, fun h => (nomatch h), fun h => (nomatch h), fun h => (nomatch h), fun h => (nomatch h), fun h => (nomatch h)⟩) ?stab ?steps ?fin
    case stab => intro i j w1 w2 v o ho hij hwt hR h; exact h
    case steps =>
      refine StepsG.cons ?_ (StepsG.cons ?_ (StepsG.cons ?_ (StepsG.cons ?_ (StepsG.cons ?_ (StepsG.cons ?_ (StepsG.cons ?_ (StepsG.cons ?_ (StepsG.cons ?_ (StepsG.cons ?_ (StepsG.cons ?_ StepsG.nil))))))))))
      · intro L f A w6 Q hL hG hsz hlow hun hnl hp
        have e0 : A.tmps.getD 0 undef = Value.pointer (some ⟨g, 0, none⟩) := hlow 0 rfl
        clear hlow hun hnl hp
        refine wpOp_go rfl rfl ?_
        go_simp
        first | exact ⟨_, rfl, hG.past 0 _ (by decide) (by decide) (by decide) (by decide) (by decide), ⟨⟩, rfl⟩ | exact ⟨hG.past 0 _ (by decide) (by decide) (by decide) (by decide) (by decide), ⟨⟩, rfl⟩ | exact ⟨hG.past 0 _ (by decide) (by decide) (by decide) (by decide) (by decide), rfl⟩ | exact hG.past 0 _ (by decide) (by decide) (by decide) (by decide) (by decide) | exact ⟨hG.past 0 _ (by decide) (by decide) (by decide) (by decide) (by decide), ⟨⟩⟩ | exact ⟨_, rfl, hG.past 0 _ (by decide) (by decide) (by decide) (by decide) (by decide), ⟨⟩, trivial⟩ | exact ⟨_, rfl, ⟨⟩, rfl⟩ | exact ⟨⟨⟩, rfl⟩
      · intro L f A w6 Q hL hG hsz hlow hun hnl hp
        have e1 : A.tmps.getD 1 undef = Value.int .i64 a := hlow 1 rfl
        clear hlow hun hnl hp
        refine wpOp_go rfl rfl ?_
        go_simp
        first | exact ⟨_, rfl, hG.past 1 _ (by decide) (by decide) (by decide) (by decide) (by decide), ⟨⟩, rfl⟩ | exact ⟨hG.past 1 _ (by decide) (by decide) (by decide) (by decide) (by decide), ⟨⟩, rfl⟩ | exact ⟨hG.past 1 _ (by decide) (by decide) (by decide) (by decide) (by decide), rfl⟩ | exact hG.past 1 _ (by decide) (by decide) (by decide) (by decide) (by decide) | exact ⟨hG.past 1 _ (by decide) (by decide) (by decide) (by decide) (by decide), ⟨⟩⟩ | exact ⟨_, rfl, hG.past 1 _ (by decide) (by decide) (by decide) (by decide) (by decide), ⟨⟩, trivial⟩ | exact ⟨_, rfl, ⟨⟩, rfl⟩ | exact ⟨⟨⟩, rfl⟩
      · intro L f A w6 Q hL hG hsz hlow hun hnl hp
        have e2 : A.tmps.getD 2 undef = Value.int .i64 b := hlow 2 rfl
        clear hlow hun hnl hp
        refine wpOp_go rfl rfl ?_
        go_simp
        first | exact ⟨_, rfl, hG.past 2 _ (by decide) (by decide) (by decide) (by decide) (by decide), ⟨⟩, rfl⟩ | exact ⟨hG.past 2 _ (by decide) (by decide) (by decide) (by decide) (by decide), ⟨⟩, rfl⟩ | exact ⟨hG.past 2 _ (by decide) (by decide) (by decide) (by decide) (by decide), rfl⟩ | exact hG.past 2 _ (by decide) (by decide) (by decide) (by decide) (by decide) | exact ⟨hG.past 2 _ (by decide) (by decide) (by decide) (by decide) (by decide), ⟨⟩⟩ | exact ⟨_, rfl, hG.past 2 _ (by decide) (by decide) (by decide) (by decide) (by decide), ⟨⟩, trivial⟩ | exact ⟨_, rfl, ⟨⟩, rfl⟩ | exact ⟨⟨⟩, rfl⟩
      · intro L f A w6 Q hL hG hsz hlow hun hnl hp
        have f0 : f 0 = Value.pointer (some ⟨g, 0, none⟩) := (hp 0 rfl).2.1
        have e22 : A.tmps.getD 22 undef = Value.pointer (some ⟨g, 0, none⟩) := ((hp 0 rfl).2.2 22 rfl).trans f0
        have f1 : f 1 = Value.int .i64 a := (hp 1 rfl).2.1
        have e23 : A.tmps.getD 23 undef = Value.int .i64 a := ((hp 1 rfl).2.2 23 rfl).trans f1
        have f2 : f 2 = Value.int .i64 b := (hp 2 rfl).2.1
        have e24 : A.tmps.getD 24 undef = Value.int .i64 b := ((hp 2 rfl).2.2 24 rfl).trans f2
        have n4 := (hnl 4 3 hL rfl)
        have n5 := (hnl 5 4 (hnl 4 3 hL rfl) rfl)
        have n8 := (hnl 8 3 hL rfl)
        have n10 := (hnl 10 8 (hnl 8 3 hL rfl) rfl)
        obtain rfl := hG.f0 hL
        clear hlow hun hnl hp
        refine wpOp_go rfl rfl ?_
        go_simp
        refine (slot_calls HW.out a b).mono ?_
        rintro e w7 ⟨q, K1, F1, rfl, hq, hw1, hs1, hk1⟩
        refine ⟨_, rfl, ⟨fun h => by simp at h, fun _ _ => ⟨K1, F1, q, upd_same _ _ _, hq, hw1, hs1, hk1⟩, fun _ h => by simp [n8] at h, fun h => by simp [n10] at h, fun _ h => by simp [n4] at h, fun _ h => by simp [n5] at h⟩, ⟨⟩, trivial⟩
      · intro L f A w6 Q hL hG hsz hlow hun hnl hp
        have e25 : A.tmps.getD 25 undef = f 3 := (hp 3 rfl).2.2 25 rfl
        have v3 := (hp 3 rfl).2.1
        have n5 := (hnl 5 4 hL rfl)
        have n10 := (hnl 10 5 (hnl 5 4 hL rfl) rfl)
        have l3 := (hp 3 rfl).1
        obtain ⟨q, hq⟩ := hG.q l3 n10
        rw [hq] at e25
        clear hlow hun hnl hp
        refine wpOp_go rfl rfl ?_
        go_simp
        refine ⟨_, rfl, ⟨fun h => by simp [l3] at h, fun _ y => by rw [upd_ne _ _ _ _ (by decide)]; exact hG.f1 l3 (by simpa using y), fun _ y z => by rw [upd_ne _ _ _ _ (by decide)]; exact hG.f2 l3 (by simpa using y) (by simpa using z), fun h => by simp [n10] at h, fun _ _ => by rw [upd_same, upd_ne _ _ _ _ (by decide), hq], fun _ h => by simp [n5] at h⟩, ⟨⟩, trivial⟩
      · intro L f A w6 Q hL hG hsz hlow hun hnl hp
        have e26 : A.tmps.getD 26 undef = f 4 := (hp 4 rfl).2.2 26 rfl
        have v4 := (hp 4 rfl).2.1
        have n10 := (hnl 10 5 hL rfl)
        have l4 := (hp 4 rfl).1
        have l3 : L 3 = true := by
          cases h : L 3 with
          | true => rfl
          | false => have := hnl 4 3 h rfl; rw [(hp 4 rfl).1] at this; cases this
        obtain ⟨q, hq⟩ := hG.q l3 n10
        rw [hG.e4 l3 l4, hq] at e26
        clear hlow hun hnl hp
        refine wpOp_go rfl rfl (wp_val (Instr.sliceAt 96 (A.tmps.getD 26 undef) none none none) rfl _ w6 (by rw [e26]; exact slice_all _ _) ?_)
        refine ⟨_, rfl, ⟨fun h => by simp [l3] at h, fun _ y => by rw [upd_ne _ _ _ _ (by decide)]; exact hG.f1 l3 (by simpa using y), fun _ y z => by rw [upd_ne _ _ _ _ (by decide)]; exact hG.f2 l3 (by simpa using y) (by simpa using z), fun h => by simp [n10] at h, fun _ y => by rw [upd_ne _ _ _ _ (by decide), upd_ne _ _ _ _ (by decide)]; exact hG.e4 l3 (by simpa using y), fun _ _ => ⟨q, by rw [upd_ne _ _ _ _ (by decide)]; exact hq, upd_same _ _ _⟩⟩, ⟨⟩, trivial⟩
      · intro L f A w6 Q hL hG hsz hlow hun hnl hp
        have e3 : A.tmps.getD 3 undef = Value.slice (some ad) 272 c5 := hlow 3 rfl
        clear hlow hun hnl hp
        refine wpOp_go rfl rfl ?_
        go_simp
        first | exact ⟨_, rfl, hG.past 6 _ (by decide) (by decide) (by decide) (by decide) (by decide), ⟨⟩, rfl⟩ | exact ⟨hG.past 6 _ (by decide) (by decide) (by decide) (by decide) (by decide), ⟨⟩, rfl⟩ | exact ⟨hG.past 6 _ (by decide) (by decide) (by decide) (by decide) (by decide), rfl⟩ | exact hG.past 6 _ (by decide) (by decide) (by decide) (by decide) (by decide) | exact ⟨hG.past 6 _ (by decide) (by decide) (by decide) (by decide) (by decide), ⟨⟩⟩ | exact ⟨_, rfl, hG.past 6 _ (by decide) (by decide) (by decide) (by decide) (by decide), ⟨⟩, trivial⟩ | exact ⟨_, rfl, ⟨⟩, rfl⟩ | exact ⟨⟨⟩, rfl⟩
      · intro L f A w6 Q hL hG hsz hlow hun hnl hp
        have e0 : A.tmps.getD 0 undef = Value.pointer (some ⟨g, 0, none⟩) := hlow 0 rfl
        clear hlow hun hnl hp
        refine wpOp_go rfl rfl ?_
        go_simp
        first | exact ⟨_, rfl, hG.past 7 _ (by decide) (by decide) (by decide) (by decide) (by decide), ⟨⟩, rfl⟩ | exact ⟨hG.past 7 _ (by decide) (by decide) (by decide) (by decide) (by decide), ⟨⟩, rfl⟩ | exact ⟨hG.past 7 _ (by decide) (by decide) (by decide) (by decide) (by decide), rfl⟩ | exact hG.past 7 _ (by decide) (by decide) (by decide) (by decide) (by decide) | exact ⟨hG.past 7 _ (by decide) (by decide) (by decide) (by decide) (by decide), ⟨⟩⟩ | exact ⟨_, rfl, hG.past 7 _ (by decide) (by decide) (by decide) (by decide) (by decide), ⟨⟩, trivial⟩ | exact ⟨_, rfl, ⟨⟩, rfl⟩ | exact ⟨⟨⟩, rfl⟩
      · intro L f A w6 Q hL hG hsz hlow hun hnl hp
        have f7 : f 7 = Value.pointer (some ⟨g, 0, none⟩) := (hp 7 rfl).2.1
        have e29 : A.tmps.getD 29 undef = Value.pointer (some ⟨g, 0, none⟩) := ((hp 7 rfl).2.2 29 rfl).trans f7
        have n10 := (hnl 10 8 hL rfl)
        have l3 := (hp 3 rfl).1
        obtain ⟨K1, F1, q, hq, hF, hw1, hs1, hk1⟩ := hG.f1 l3 hL
        clear hlow hun hnl hp
        refine wpOp_go rfl rfl ?_
        go_simp
        refine (takes_calls hw1 272 (by decide) (by decide)).mono ?_
        rintro e w7 ⟨rfl, hw2, hs2⟩
        rw [HM.out]
        refine ⟨_, rfl, ⟨fun h => by simp [l3] at h, fun _ h => by simp at h, fun _ _ _ => ⟨K1, F1, q, by rw [upd_ne _ _ _ _ (by decide)]; exact hq, hF, hw2, hs1.trans hs2, hk1⟩, fun h => by simp [n10] at h, fun _ y => by rw [upd_ne _ _ _ _ (by decide), upd_ne _ _ _ _ (by decide)]; exact hG.e4 l3 (by simpa using y), fun _ y => by rw [upd_ne _ _ _ _ (by decide), upd_ne _ _ _ _ (by decide)]; exact hG.e5 l3 (by simpa using y)⟩, ⟨⟩, rfl⟩
      · intro L f A w6 Q hL hG hsz hlow hun hnl hp
        have f6 : f 6 = Value.slice (some ad) 272 c5 := (hp 6 rfl).2.1
        have e28 : A.tmps.getD 28 undef = Value.slice (some ad) 272 c5 := ((hp 6 rfl).2.2 28 rfl).trans f6
        have f8 : f 8 = Value.int .i64 (m : Int) := (hp 8 rfl).2.1
        have e30 : A.tmps.getD 30 undef = Value.int .i64 (m : Int) := ((hp 8 rfl).2.2 30 rfl).trans f8
        have hm1 := HM1.out
        have hm2 := HM2.out
        have hmc : m ≤ c5 := by have := HM2N.out; have := HCC.out; omega
        clear hlow hun hnl hp
        refine wpOp_go rfl rfl ?_
        go_simp
        first | exact ⟨_, rfl, hG.past 9 _ (by decide) (by decide) (by decide) (by decide) (by decide), ⟨⟩, rfl⟩ | exact ⟨hG.past 9 _ (by decide) (by decide) (by decide) (by decide) (by decide), ⟨⟩, rfl⟩ | exact ⟨hG.past 9 _ (by decide) (by decide) (by decide) (by decide) (by decide), rfl⟩ | exact hG.past 9 _ (by decide) (by decide) (by decide) (by decide) (by decide) | exact ⟨hG.past 9 _ (by decide) (by decide) (by decide) (by decide) (by decide), ⟨⟩⟩ | exact ⟨_, rfl, hG.past 9 _ (by decide) (by decide) (by decide) (by decide) (by decide), ⟨⟩, trivial⟩ | exact ⟨_, rfl, ⟨⟩, rfl⟩ | exact ⟨⟨⟩, rfl⟩
      · intro L f A w6 Q hL hG hsz hlow hun hnl hp
        have e27 : A.tmps.getD 27 undef = f 5 := (hp 5 rfl).2.2 27 rfl
        have v5 := (hp 5 rfl).2.1
        have f9 : f 9 = Value.slice (some ad) m c5 := (hp 9 rfl).2.1
        have e31 : A.tmps.getD 31 undef = Value.slice (some ad) m c5 := ((hp 9 rfl).2.2 31 rfl).trans f9
        have l8 := (hp 8 rfl).1
        have l3 : L 3 = true := by
          cases h : L 3 with
          | true => rfl
          | false => have := hnl 8 3 h rfl; rw [(hp 8 rfl).1] at this; cases this
        obtain ⟨q, hq, h5⟩ := hG.e5 l3 (hp 5 rfl).1
        obtain ⟨K1, F1, q2, hq2, hF, hw1, hs1, hk1⟩ := hG.f2 l3 l8 hL
        obtain rfl : q = q2 := by rw [hq] at hq2; injection hq2 with h; injection h with h; injection h
        rw [h5] at e27
        have hrc := hs1.rc HR5.out (fun ad e _ => HA5.out ad e)
        clear hlow hun hnl hp
        refine wpOp_go rfl rfl (wp_cpy (.tmp 27) (.tmp 31) 22 22 rfl _ _ e27 e31 (run_copy_u8 w6 q ad m c5 ((wideW bb).take m) ((takesP s3 272).slots (a, b)) (hw1.hs _ q hF).2 (hw1.len _) (by rw [List.length_take, wideW_len]; have := HM2N.out; omega) HM2N.out (by rw [bs, List.map_take]; exact hrc.take m) _) ?_)
        obtain ⟨z1, z2⟩ := put_end hw1 hF ((wideW bb).take m) (by rw [List.length_take, wideW_len]; omega)
        refine ⟨_, rfl, ⟨fun h => by simp [l3] at h, fun _ h => by simp [l8] at h, fun _ _ h => by simp at h, fun _ => ⟨K1, _, z1, hs1.trans z2, hk1⟩, fun _ y => by rw [upd_ne _ _ _ _ (by decide), upd_ne _ _ _ _ (by decide)]; exact hG.e4 l3 (by simpa using y), fun _ y => by rw [upd_ne _ _ _ _ (by decide), upd_ne _ _ _ _ (by decide)]; exact hG.e5 l3 (by simpa using y)⟩, ⟨⟩, trivial⟩
    case fin =>
      intro L f w9 hLL hG hV
      obtain ⟨K1, c1, hw, hs, hk⟩ := hG.f3 (hLL 10 (by simp))
      have hc9 : w9.cell? ⟨g, 9, none⟩ = some (.bool (takesP s3 272).dead) := hw.obj.cell (i := 9) rfl
      have HW9 := Hd.mk hw
      have HS9 := Hd.mk (HS4.out.trans hs)
      have HK9 : Hd (∀ k, K k ≠ 0 → K1 k = K k) := ⟨fun k h0 => by rw [hk k (by rw [HK.out k h0]; exact h0), HK.out k h0]⟩
      clear hG hV hLL hw hs hk
      simp only [fillD, Act.put, List.setIfInBounds_toArray, List.set_cons_zero, List.set_cons_succ]
      go_wp2_with (fail)
      go_ret
      rw [H2.out.1, H2.out.2]
      exact ⟨rfl, K1, c1, HW9.out, HS9.out, HK9.out⟩
def RetDo (w0 : World) (g : Nat) (K : Nat → Nat) (s' : Wd) (r : Bool) (w : World) (e : Ending) (w' : World) : Prop :=
  e = .returned (.bool r) ∧ ∃ K', Wo w0 w' g K' s' ∧ Stp K K' w w'
theorem wo_write {w0 : World} (h : Wo w0 w g K s) (hf : Few s) (a b : Int) (AB : Option Addr) (n cap : Nat) (bb : List UInt8) (hr : Fr w K AB bb) (e : n = bb.length) (hn : bb.length ≤ 1099511627776) :
    Calls Try.prog 12 #[.pointer (some ⟨g, 0, none⟩), .int .i64 a, .int .i64 b, .slice AB n cap] w (RetDo w0 g K (writeP s a b bb) (writeR s a b bb) w) := by
  obtain ⟨c, hc⟩ := h.ex
  refine (write_calls hc hf a b AB n cap bb hr.rc (fun ad e hb => (hr.fr ad e hb).1) e hn).mono ?_
  rintro e w' ⟨rfl, K', c', h1, h2, _⟩
  exact ⟨rfl, K', h.step h1 h2, h2⟩
end
end Go.Proofs.Ytffhncpgknkkaaa
