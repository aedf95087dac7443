/- W06Lie: a lie of a read to come; a new world. -/
import Derived.Carry
import Derived.Test.YtffhncpgknkkaaaW06Small
namespace Go.Proofs.Ytffhncpgknkkaaa
open Go.RowKit Go.Sac
set_option linter.unusedVariables false
set_option linter.unusedSimpArgs false
section
variable {w : World} {g : Nat} {K : Nat → Nat} {c : Wc} {s : Wd}
def lieP (s : Wd) (n : Int) (b : List UInt8) : Wd := { s with lies := fun m => if m = n then some b else s.lies m }
theorem lie_end (h : WdAt w g K c s) {w1 : World} (hb : Below w.heap.size w w1) {n : Int} {b : List UInt8} {v : Value} (ho : w1.ownsRow w.heap.size 5 1 v b.length (bs b)) :
    ∃ w', (Instr.mapUpdate 65 (.map (some c.rl)) (.int .i64 n) v).run Try.prog w1 = .ok () w' ∧ ∃ K' c', WdAt w' g K' c' (lieP s n b) ∧ Stp K K' w w' ∧ ∀ k, K k ≠ 0 → K' k = K k := by
  have h1 := h.below hb
  obtain ⟨w', hu1, hu2, hu3⟩ := run_update_k nkey_ok lmap_und h1.ml n v
  refine ⟨w', hu1, ?_⟩
  obtain ⟨A, cap, rfl, hc, hr, hA⟩ := own_rc ho
  obtain ⟨K', hK'⟩ : ∃ K' : Nat → Nat, K' = fun k => if A.map (·.block) = some k then 6 else K k := ⟨_, rfl⟩
  have old : ∀ k, k < w.heap.size → K' k = K k := fun k hk => by
    rw [hK']
    refine if_neg fun e => ?_
    cases hAA : A with
    | none => rw [hAA] at e; cases e
    | some a => rw [hAA] at e; injection e with e; have e : a.block = k := e; have := (hA a hAA).1; omega
  have old2 : ∀ k, K k ≠ 0 → K' k = K k := fun k hk => old k (h.dom k hk)
  have blk : ∀ k, K k ≠ 0 → K k ≠ 3 → w'.heap[k]? = w.heap[k]? := fun k h0 h3 => (hu2.other k (fun e => h3 (by rw [e]; exact h.krl))).trans (hb.block k (h.dom k h0))
  have row : ∀ {A : Option Addr} {l : List UInt8} {n : Nat}, Row6 w K A l n → Row6 w' K' A l n := fun r =>
    ⟨(r.keep fun k _ h6 => blk k (by omega) (by omega)).rc, r.cap, fun a ha => by rw [old2 _ (by rw [r.kd a ha]; decide)]; exact r.kd a ha⟩
  have hsz : w'.heap.size = w1.heap.size := hu2.size
  have hn6 : Row6 w' K' A b cap := ⟨hr.keep fun q off e hq => hu2.other q (fun e2 => by have h4 := (hA _ e).1; have h5 := h.dom c.rl (by rw [h.krl]; decide); have e2 : q = c.rl := e2; have h4 : w.heap.size ≤ q := h4; omega), hc, fun a ha => by rw [hK']; exact if_pos (by rw [ha]; rfl)⟩
  refine ⟨K', { c with L := fun m => if m = n then some (A, cap) else c.L m }, ?_, ⟨hu2.os.trans hb.os, hu2.tape.trans hb.tape, hu2.output.trans hb.output, by rw [hsz]; exact hb.size, fun k hk h0 => (hu2.other k (fun e => by have h3 := h.krl; rw [← e] at h3; omega)).trans (hb.block k hk), fun k hk h0 => by rw [old k hk]; exact h0⟩, old2⟩
  exact {
    obj := (blk g (by rw [h.kg]; decide) (by rw [h.kg]; decide)).trans h.obj
    kg := by rw [old2 g (by rw [h.kg]; decide)]; exact h.kg
    krs := by rw [old2 _ (by rw [h.krs]; decide)]; exact h.krs
    krl := by rw [old2 _ (by rw [h.krl]; decide)]; exact h.krl
    ms := map_keep h.ms (blk _ (by rw [h.krs]; decide) (by rw [h.krs]; decide))
    len := h.len
    hs := fun p q hq => by
      have h1 := h.hs p q hq
      exact ⟨by rw [old2 q (by rw [h1.1]; decide)]; exact h1.1, (blk q (by rw [h1.1]; decide) (by rw [h1.1]; decide)).trans h1.2⟩
    h0 := h.h0
    inj := h.inj
    ml := by
      have e : (fun q => if q = n then some (Value.slice A b.length cap) else (c.L q).map (lieV s q)) = fun q => (if q = n then some (A, cap) else c.L q).map (lieV (lieP s n b) q) := by
        funext q
        by_cases hq : q = n
        · subst hq; simp [lieV, lieP]
        · rw [if_neg hq, if_neg hq]
          cases c.L q with
          | none => rfl
          | some x =>
            have e2 : (lieP s n b).lies q = s.lies q := if_neg hq
            show some (lieV s q x) = some (lieV (lieP s n b) q x)
            unfold lieV
            rw [e2]
      exact e ▸ hu3
    hl := fun m x hx => by
      by_cases hm : m = n
      · have hx : (if m = n then some (A, cap) else c.L m) = some x := hx
        rw [if_pos hm] at hx
        have hx := Option.some.inj hx
        subst hx
        exact ⟨b, if_pos hm, hn6⟩
      · have hx : (if m = n then some (A, cap) else c.L m) = some x := hx
        rw [if_neg hm] at hx
        obtain ⟨l, h1, h2⟩ := h.hl m x hx
        exact ⟨l, (if_neg hm).trans h1, row h2⟩
    hn := fun m hm => by
      by_cases e : m = n
      · have hm : (if m = n then some (A, cap) else c.L m) = none := hm
        rw [if_pos e] at hm; cases hm
      · have hm : (if m = n then some (A, cap) else c.L m) = none := hm
        rw [if_neg e] at hm
        exact (if_neg e).trans (h.hn m hm)
    q0 := row h.q0
    q1 := row h.q1
    tr := own_keep h.tr fun k hk => by have h5 := h.kt k hk; exact blk k (by omega) (by omega)
    kt := fun k hk => by have h5 := h.kt k hk; rw [old2 k (by omega)]; exact h5
    th := fun x hx => row (h.th x hx)
    tv := h.tv
    dom := fun k hk => by
      rw [hsz]
      by_cases e : A.map (·.block) = some k
      · cases hAA : A with
        | none => rw [hAA] at e; cases e
        | some a => rw [hAA] at e; injection e with e; have e : a.block = k := e; have := (hA a hAA).2; omega
      · rw [hK'] at hk
        have hk : (if A.map (·.block) = some k then 6 else K k) ≠ 0 := hk
        rw [if_neg e] at hk
        exact Nat.lt_of_lt_of_le (h.dom k hk) hb.size
    num := h.num }
/-- the region's worlds: as it stood, with a clone, with the map written -/
structure GL (w0 : World) (rl : Nat) (n : Int) (b : List UInt8) (L : Nat → Bool) (w : World) (f : Nat → Value) : Prop where
  fa : L 6 = false → L 7 = false → w = w0
  fb : L 6 = true → L 7 = false → Below w0.heap.size w0 w ∧ w.ownsRow w0.heap.size 5 1 (f 6) b.length (bs b)
  fc : L 7 = true → ∃ w1 v, Below w0.heap.size w0 w1 ∧ w1.ownsRow w0.heap.size 5 1 v b.length (bs b) ∧ (Instr.mapUpdate 65 (.map (some rl)) (.int .i64 n) v).run Try.prog w1 = .ok () w
theorem GL.past {w0 w : World} {rl : Nat} {n : Int} {b : List UInt8} {L : Nat → Bool} {f : Nat → Value} (h : GL w0 rl n b L w f) (i : Nat) (v : Value) (h6 : 6 ≠ i) (h7 : 7 ≠ i) : GL w0 rl n b (fun j => j == i || L j) w (upd f i v) := by
  have e6 : (6 == i || L 6) = L 6 := by simp [h6]
  have e7 : (7 == i || L 7) = L 7 := by simp [h7]
  exact ⟨fun x y => h.fa (e6 ▸ x) (e7 ▸ y), fun x y => by rw [upd_ne _ _ _ _ h6]; exact h.fb (e6 ▸ x) (e7 ▸ y), fun x => h.fc (e7 ▸ x)⟩
/-- what the region yields -/
def VL (g rl : Nat) (n : Int) (AB : Option Addr) (m cap : Nat) (i : Nat) (w : World) (v : Value) : Prop :=
  match i with
  | 0 => v = Value.pointer (some ⟨g, 0, none⟩)
  | 1 => v = Value.pointer (some ⟨g, 0, none⟩)
  | 2 => v = Value.pointer (some ⟨g, 5, none⟩)
  | 3 => v = Value.map (some rl)
  | 4 => v = Value.int .i64 n
  | 5 => v = Value.slice AB m cap
  | _ => True
set_option maxRecDepth 100000 in
set_option maxHeartbeats 4000000 in
theorem lie_calls (h : WdAt w g K c s) (n : Int) (AB : Option Addr) (m cap : Nat) (b : List UInt8) (hr : Rc w AB (bs b)) (e : m = b.length) (hn : b.length ≤ 1099511627776) :
    Calls Try.prog 14 #[.pointer (some ⟨g, 0, none⟩), .int .i64 n, .slice AB m cap] w fun e w' => e = .returned (.tuple #[]) ∧ ∃ K' c', WdAt w' g K' c' (lieP s n b) ∧ Stp K K' w w' ∧ ∀ k, K k ≠ 0 → K' k = K k := by
  have HW := Hd.mk (h.below ((Below.refl _ w).drew))
  have HR := Hd.mk hr
  have HN := Hd.mk e
  have HNB := Hd.mk hn
  have HC5 : Hd (∀ L W f, GL w.drew c.rl n b L W f → L 7 = false → W.cell? ⟨g, 5, none⟩ = some (.map (some c.rl))) := ⟨fun L W f hG h7 => by
    have h5 := HW.out.obj
    cases h6 : L 6 with
    | true => exact (h5.below (hG.fb h6 h7).1 h5.lt).cell (i := 5) rfl
    | false => rw [hG.fa h6 h7]; exact h5.cell (i := 5) rfl⟩
  clear h hr e hn
  go_enter Try.func14, Try.ntmps14
  go_wp2_with (fail)
  refine region_stp (VL g c.rl n AB m cap) (GL w.drew c.rl n b) NoR (by kernel_rfl) (by kernel_rfl) (by kernel_rfl) (by kernel_rfl) (fun _ => ⟨fun _ _ => rfl, fun h => (nomatch h), fun h => (nomatch h)⟩) ?stab ?steps ?fin
  case stab => intro i j w1 w2 v o ho hij hwt hR h; exact h
  case steps =>
    refine StepsG.cons ?_ (StepsG.cons ?_ (StepsG.cons ?_ (StepsG.cons ?_ (StepsG.cons ?_ (StepsG.cons ?_ (StepsG.cons ?_ (StepsG.cons ?_ StepsG.nil)))))))
    · intro L f A w6 Q hL hG hsz hlow hun hnl hp
      have e0 : A.tmps.getD 0 undef = Value.pointer (some ⟨g, 0, none⟩) := hlow 0 rfl
      clear hlow hun hnl hp
      refine wpOp_go rfl rfl ?_
      go_simp
      first | exact ⟨_, rfl, hG.past 0 _ (by decide) (by decide), ⟨⟩, rfl⟩ | exact ⟨hG.past 0 _ (by decide) (by decide), ⟨⟩, rfl⟩ | exact ⟨hG.past 0 _ (by decide) (by decide), rfl⟩ | exact hG.past 0 _ (by decide) (by decide) | exact ⟨hG.past 0 _ (by decide) (by decide), ⟨⟩⟩ | exact ⟨_, rfl, hG.past 0 _ (by decide) (by decide), ⟨⟩, trivial⟩ | exact ⟨_, rfl, ⟨⟩, rfl⟩ | exact ⟨⟨⟩, rfl⟩
    · intro L f A w6 Q hL hG hsz hlow hun hnl hp
      have f0 : f 0 = Value.pointer (some ⟨g, 0, none⟩) := (hp 0 rfl).2.1
      have e8 : A.tmps.getD 8 undef = Value.pointer (some ⟨g, 0, none⟩) := ((hp 0 rfl).2.2 8 rfl).trans f0
      clear hlow hun hnl hp
      refine wpOp_go rfl rfl ?_
      go_simp
      first | exact ⟨_, rfl, hG.past 1 _ (by decide) (by decide), ⟨⟩, rfl⟩ | exact ⟨hG.past 1 _ (by decide) (by decide), ⟨⟩, rfl⟩ | exact ⟨hG.past 1 _ (by decide) (by decide), rfl⟩ | exact hG.past 1 _ (by decide) (by decide) | exact ⟨hG.past 1 _ (by decide) (by decide), ⟨⟩⟩ | exact ⟨_, rfl, hG.past 1 _ (by decide) (by decide), ⟨⟩, trivial⟩ | exact ⟨_, rfl, ⟨⟩, rfl⟩ | exact ⟨⟨⟩, rfl⟩
    · intro L f A w6 Q hL hG hsz hlow hun hnl hp
      have f1 : f 1 = Value.pointer (some ⟨g, 0, none⟩) := (hp 1 rfl).2.1
      have e9 : A.tmps.getD 9 undef = Value.pointer (some ⟨g, 0, none⟩) := ((hp 1 rfl).2.2 9 rfl).trans f1
      clear hlow hun hnl hp
      refine wpOp_go rfl rfl ?_
      go_simp
      first | exact ⟨_, rfl, hG.past 2 _ (by decide) (by decide), ⟨⟩, rfl⟩ | exact ⟨hG.past 2 _ (by decide) (by decide), ⟨⟩, rfl⟩ | exact ⟨hG.past 2 _ (by decide) (by decide), rfl⟩ | exact hG.past 2 _ (by decide) (by decide) | exact ⟨hG.past 2 _ (by decide) (by decide), ⟨⟩⟩ | exact ⟨_, rfl, hG.past 2 _ (by decide) (by decide), ⟨⟩, trivial⟩ | exact ⟨_, rfl, ⟨⟩, rfl⟩ | exact ⟨⟨⟩, rfl⟩
    · intro L f A w6 Q hL hG hsz hlow hun hnl hp
      have f2 : f 2 = Value.pointer (some ⟨g, 5, none⟩) := (hp 2 rfl).2.1
      have e10 : A.tmps.getD 10 undef = Value.pointer (some ⟨g, 5, none⟩) := ((hp 2 rfl).2.2 10 rfl).trans f2
      have n7 := (hnl 7 3 hL rfl)
      have hcc : w6.cell? ⟨g, 5, none⟩ = some (.map (some c.rl)) := HC5.out L w6 f hG n7
      clear hlow hun hnl hp
      refine wpOp_go rfl rfl ?_
      go_simp
      first | exact ⟨_, rfl, hG.past 3 _ (by decide) (by decide), ⟨⟩, rfl⟩ | exact ⟨hG.past 3 _ (by decide) (by decide), ⟨⟩, rfl⟩ | exact ⟨hG.past 3 _ (by decide) (by decide), rfl⟩ | exact hG.past 3 _ (by decide) (by decide) | exact ⟨hG.past 3 _ (by decide) (by decide), ⟨⟩⟩ | exact ⟨_, rfl, hG.past 3 _ (by decide) (by decide), ⟨⟩, trivial⟩ | exact ⟨_, rfl, ⟨⟩, rfl⟩ | exact ⟨⟨⟩, rfl⟩
    · intro L f A w6 Q hL hG hsz hlow hun hnl hp
      have e1 : A.tmps.getD 1 undef = Value.int .i64 n := hlow 1 rfl
      clear hlow hun hnl hp
      refine wpOp_go rfl rfl ?_
      go_simp
      first | exact ⟨_, rfl, hG.past 4 _ (by decide) (by decide), ⟨⟩, rfl⟩ | exact ⟨hG.past 4 _ (by decide) (by decide), ⟨⟩, rfl⟩ | exact ⟨hG.past 4 _ (by decide) (by decide), rfl⟩ | exact hG.past 4 _ (by decide) (by decide) | exact ⟨hG.past 4 _ (by decide) (by decide), ⟨⟩⟩ | exact ⟨_, rfl, hG.past 4 _ (by decide) (by decide), ⟨⟩, trivial⟩ | exact ⟨_, rfl, ⟨⟩, rfl⟩ | exact ⟨⟨⟩, rfl⟩
    · intro L f A w6 Q hL hG hsz hlow hun hnl hp
      have e2 : A.tmps.getD 2 undef = Value.slice AB m cap := hlow 2 rfl
      clear hlow hun hnl hp
      refine wpOp_go rfl rfl ?_
      go_simp
      first | exact ⟨_, rfl, hG.past 5 _ (by decide) (by decide), ⟨⟩, rfl⟩ | exact ⟨hG.past 5 _ (by decide) (by decide), ⟨⟩, rfl⟩ | exact ⟨hG.past 5 _ (by decide) (by decide), rfl⟩ | exact hG.past 5 _ (by decide) (by decide) | exact ⟨hG.past 5 _ (by decide) (by decide), ⟨⟩⟩ | exact ⟨_, rfl, hG.past 5 _ (by decide) (by decide), ⟨⟩, trivial⟩ | exact ⟨_, rfl, ⟨⟩, rfl⟩ | exact ⟨⟨⟩, rfl⟩
    · intro L f A w6 Q hL hG hsz hlow hun hnl hp
      have f5 : f 5 = Value.slice AB m cap := (hp 5 rfl).2.1
      have e13 : A.tmps.getD 13 undef = Value.slice AB m cap := ((hp 5 rfl).2.2 13 rfl).trans f5
      have n7 := (hnl 7 6 hL rfl)
      obtain rfl := hG.fa hL n7
      clear hlow hun hnl hp
      refine wpOp_go rfl rfl (wp_app w.drew.heap.size 22 5 (.int .u8 0) 1 1 (.const (.slice none 0 0)) (.tmp 13) rfl Try.underlying22 info_u8 rfl (by decide) (by decide) (.slice none 0 0) 0 [] (bs b) AB m cap rfl e13 (World.ownsRow_nil _ _ _ _) HR.out.drew (by rw [bs_len, HN.out]; omega) bs_one (Nat.le_refl _) (by have := HNB.out; have := HN.out; omega) b.length (bs b) (by rw [HN.out]; omega) (by simp) ?_)
      intro v1 w7 ho hg hat
      exact ⟨v1, rfl, ⟨fun h => by simp at h, fun _ _ => ⟨below_nil hg, by rw [upd_same]; exact ho⟩, fun h => by simp [n7] at h⟩, ⟨⟩, trivial⟩
    · intro L f A w6 Q hL hG hsz hlow hun hnl hp
      have f3 : f 3 = Value.map (some c.rl) := (hp 3 rfl).2.1
      have e11 : A.tmps.getD 11 undef = Value.map (some c.rl) := ((hp 3 rfl).2.2 11 rfl).trans f3
      have f4 : f 4 = Value.int .i64 n := (hp 4 rfl).2.1
      have e12 : A.tmps.getD 12 undef = Value.int .i64 n := ((hp 4 rfl).2.2 12 rfl).trans f4
      have e14 : A.tmps.getD 14 undef = f 6 := (hp 6 rfl).2.2 14 rfl
      have v6 := (hp 6 rfl).2.1
      obtain ⟨hb, ho⟩ := hG.fb (hp 6 rfl).1 hL
      obtain ⟨w8, hu, _⟩ := lie_end HW.out (n := n) hb ho
      clear hlow hun hnl hp
      refine wpOp_go rfl rfl (wp_mup 65 (.tmp 11) (.tmp 12) (.tmp 14) rfl w8 ?_ ⟨_, rfl, ⟨fun _ h => by simp at h, fun _ h => by simp at h, fun _ => ⟨w6, f 6, hb, ho, hu⟩⟩, ⟨⟩, trivial⟩)
      show (Instr.mapUpdate _ (A.tmps.getD 11 undef) (A.tmps.getD 12 undef) (A.tmps.getD 14 undef)).run _ _ = _
      rw [e11, e12, e14]
      exact hu
  case fin =>
    intro L f w9 hLL hG hV
    obtain ⟨w1, v, hb, ho, hu⟩ := hG.fc (hLL 7 (by simp))
    obtain ⟨w2, hu2, K', c', q1, q2, q3⟩ := lie_end HW.out (n := n) hb ho
    have he : w2 = w9 := by rw [hu2] at hu; injection hu
    subst he
    have HQ : Hd (∃ K' c', WdAt w2 g K' c' (lieP s n b) ∧ Stp K K' w w2 ∧ ∀ k, K k ≠ 0 → K' k = K k) := ⟨K', c', q1, (Stp.of_below ((Below.refl _ w).drew)).trans q2, q3⟩
    clear hG hV hLL hb ho hu hu2 q1 q2 q3
    simp only [fillD, Act.put, List.setIfInBounds_toArray, List.set_cons_zero, List.set_cons_succ]
    go_end0
    exact ⟨rfl, HQ.out⟩
def newP (n : Int) : Wd := { blocks := max 0 (min n 4096), slots := fun _ => nought, s0 := [], s1 := [], counter := 0, lies := fun _ => none, reads := 0, armed := false, power := 0, dead := false, trace := [] }
set_option maxRecDepth 100000 in
theorem new_calls (w : World) (n : Int) : Calls Try.prog 11 #[.int .i64 n] w fun e w' => ∃ g K c, e = .returned (.pointer (some ⟨g, 0, none⟩)) ∧ WdAt w' g K c (newP n) ∧ Below w.heap.size w w' ∧ (∀ k, K k ≠ 0 → w.heap.size ≤ k) := by
  have hmm := @run_makeMap Try.prog
  go_enter Try.func11, Try.ntmps11
  go_wp2
  go_ret
  refine ⟨w.heap.size + 1 + 1, fun k => if k = w.heap.size then 2 else if k = w.heap.size + 1 then 3 else if k = w.heap.size + 1 + 1 then 1 else 0, ⟨w.heap.size, w.heap.size + 1, none, 0, none, 0, .slice none 0 0, [], fun _ => none, fun _ => none⟩, rfl, ?_, ?_, ?_⟩
  · have hz1 : (w.alloc (.map #[] 0)).heap.size = w.heap.size + 1 := by simp
    have hz2 : ((w.alloc (.map #[] 0)).alloc (.map #[] 0)).heap.size = w.heap.size + 1 + 1 := by simp
    have k1 : MapAt pkey ((w.alloc (.map #[] 0)).alloc (.map #[] 0)) w.heap.size (fun _ => none) := (MapAt.new w).below ((Below.refl _ _).alloc (Nat.le_refl _) _)
    have k2 : MapAt i64v ((w.alloc (.map #[] 0)).alloc (.map #[] 0)) (w.heap.size + 1) (fun _ => none) := by have h := MapAt.new (kenc := i64v) (w.alloc (.map #[] 0)); rw [hz1] at h; exact h
    have k3 := Blk.new ((w.alloc (.map #[] 0)).alloc (.map #[] 0)) 73 (Wc.cells ⟨w.heap.size, w.heap.size + 1, none, 0, none, 0, .slice none 0 0, [], fun _ => none, fun _ => none⟩ (newP n))
    rw [hz2] at k3
    exact {
      obj := k3
      kg := by rw [if_neg (by omega), if_neg (by omega), if_pos rfl]
      krs := by dsimp only; rw [if_pos rfl]
      krl := by dsimp only; rw [if_neg (by omega), if_pos rfl]
      ms := k1.below ((Below.refl _ _).alloc (Nat.le_refl _) _)
      len := fun _ => nought_len
      hs := fun p b hb => by cases hb
      h0 := fun _ _ => rfl
      inj := fun p q b hb => by cases hb
      ml := k2.below ((Below.refl _ _).alloc (Nat.le_refl _) _)
      hl := fun n x hx => by cases hx
      hn := fun _ _ => rfl
      q0 := ⟨Rc.nil _ _, Nat.le_refl _, fun a ha => by cases ha⟩
      q1 := ⟨Rc.nil _ _, Nat.le_refl _, fun a ha => by cases ha⟩
      tr := World.ownsRow_nil _ _ _ _
      kt := fun k hk => by cases hk
      th := fun x hx => by cases hx
      tv := rfl
      dom := fun k hk => by
        rw [World.size_alloc, hz2]
        split at hk
        · omega
        · split at hk
          · omega
          · split at hk
            · omega
            · omega
      num := ⟨Int.le_refl _, show (0 : Int) < 18446744073709551616 by decide, Int.le_refl _, Int.le_refl _, show (0 : Int) ≤ 1000000 by decide, by show 0 ≤ max 0 (min n 4096); omega, by show max 0 (min n 4096) ≤ 4096; omega⟩ }
  · exact (((Below.refl _ w).alloc (Nat.le_refl _) _).alloc (by simp) _).alloc (by simp; omega) _
  · intro k hk
    dsimp only at hk
    split at hk
    · omega
    · split at hk
      · omega
      · split at hk
        · omega
        · omega
end
end Go.Proofs.Ytffhncpgknkkaaa
