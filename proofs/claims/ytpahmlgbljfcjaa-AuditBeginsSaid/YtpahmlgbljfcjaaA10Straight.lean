/- A10Straight: audit.Straight. -/
import Derived.Carry
import Derived.WalkMore
import Derived.Test.YtpahmlgbljfcjaaCPad2
import Derived.Test.YtpahmlgbljfcjaaCEqual
import Derived.Test.YtpahmlgbljfcjaaA10Key
import Derived.Test.YtpahmlgbljfcjaaBase15
import Derived.Test.YtpahmlgbljfcjaaBase18
import Derived.Test.YtpahmlgbljfcjaaBase19
namespace Go.Proofs.Ytpahmlgbljfcjaa
open Go.RowKit Go.Sac
set_option linter.unusedVariables false
set_option linter.unusedSimpArgs false
/-- a trace, as it lies -/
structure Tr where
  kind : Int
  at_ : Int
  slot : Int
  A : Option Addr
  b : List UInt8
  c : Nat
abbrev TV := Int × Int × Int × List UInt8
def Tr.cells (x : Tr) : List Value := [.int .i64 x.kind, .int .i64 x.at_, .int .i64 x.slot, .slice x.A x.b.length x.c]
def Tr.val (x : Tr) : TV := (x.kind, x.at_, x.slot, x.b)
def trs (l : List Tr) : List Value := rowK Tr.cells l
def HeldT (w : World) (l : List Tr) : Prop := ∀ x ∈ l, Rc w x.A (bs x.b) ∧ x.b.length ≤ x.c
theorem HeldT.below {w w' : World} {l : List Tr} (h : HeldT w l) (hb : Below w.heap.size w w') : HeldT w' l := fun x hx => ⟨(h x hx).1.below hb, (h x hx).2⟩
theorem trace_info : (Try.prog.info? 39).map (·.size) = some 4 := by kernel_rfl
theorem place_info : (Try.prog.info? 42).map (·.size) = some 2 := by kernel_rfl
theorem trs_len (x : Tr) : x.cells.length = 4 := rfl
/-- what is written of some bytes -/
def wideW (b : List UInt8) : List UInt8 := (padB b 272).take 272
def nought : List UInt8 := List.replicate 272 0
def strG : (Int × Int → List UInt8) → Nat → List TV → Int
  | _, _, [] => -1
  | f, i, x :: t => if x.1 = 2 then strG (fun q => if q = (x.2.1, x.2.2.1) then wideW x.2.2.2 else f q) (i + 1) t else if x.1 = 1 then (if f (x.2.1, x.2.2.1) = x.2.2.2 then strG f (i + 1) t else i) else strG f (i + 1) t
/-- the map tells the slots -/
def Slots (w : World) (r : Nat) (f : Int × Int → List UInt8) : Prop :=
  ∃ F, MapAt pkey w r F ∧ ∀ p, (f p).length = 272 ∧ ((F p = none ∧ f p = nought) ∨ ∃ g, F p = some (.pointer (some ⟨g, 0, none⟩)) ∧ r < g ∧ Blk w g 43 (bs (f p)))
theorem wideW_len (b : List UInt8) : (wideW b).length = 272 := by unfold wideW padB; simp; omega
theorem nought_len : nought.length = 272 := by unfold nought; exact List.length_replicate
theorem Slots.below {w w' : World} {r : Nat} {f : Int × Int → List UInt8} (h : Slots w r f) (hb : Below w.heap.size w w') : Slots w' r f := by
  obtain ⟨F, h1, h2⟩ := h
  refine ⟨F, h1.below hb, fun p => ⟨(h2 p).1, ?_⟩⟩
  rcases (h2 p).2 with h | ⟨g, a, b, c⟩
  · exact .inl h
  · exact .inr ⟨g, a, b, c.below hb c.lt⟩
theorem pmap_und : Try.prog.underlying 40 = some (.map 42 45) := Try.underlying40
theorem zero_ptr (w : World) : (zeroValue 45).run Try.prog w = .ok (.pointer none) w := rfl
theorem arr_zero : (Try.prog.info? 43).map (·.zero) = some (some (.agg (bs nought).toArray)) := by kernel_rfl
theorem arr_size {l : List UInt8} (h : l.length = 272) : (Try.prog.info? 43).map (·.size) = some (bs l).length := by
  rw [bs_len, h]; kernel_rfl
theorem arr_size' {l : List UInt8} (h : l.length = 272) : (Try.prog.info? 43).map (·.size) = some (bs l).toArray.size := by
  rw [List.size_toArray]; exact arr_size h
theorem array_at (a : Addr) (c : Nat) (w : World) : (Instr.arrayAt 43 (.slice (some a) 272 c)).run Try.prog w = .ok (.pointer (some a)) w := by
  simp [Instr.arrayAt, run_underlying Try.underlying43, Sem.run_bind, Result.andThen]
theorem bs_all (l : List UInt8) : (bs l).toArray.all (·.oneCell') = true := by
  rw [List.all_toArray, List.all_eq_true]; exact bs_one
theorem strG_yes {f : Int × Int → List UInt8} {i : Nat} {a s : Int} {b : List UInt8} {t : List TV} (h : f (a, s) = b) : strG f i ((1, a, s, b) :: t) = strG f (i + 1) t := by simp [strG, h]
theorem strG_no {f : Int × Int → List UInt8} {i : Nat} {a s : Int} {b : List UInt8} {t : List TV} (h : ¬ f (a, s) = b) : strG f i ((1, a, s, b) :: t) = (i : Int) := by simp [strG, h]
theorem strG_else {f : Int × Int → List UInt8} {i : Nat} {k a s : Int} {b : List UInt8} {t : List TV} (h2 : ¬ k = 2) (h1 : ¬ k = 1) : strG f i ((k, a, s, b) :: t) = strG f (i + 1) t := by simp [strG, h2, h1]
theorem equal_any (A B : Option Addr) (n m c d : Nat) (l k : List UInt8) (w : World) (hl : Rc w A (bs l)) (hk : Rc w B (bs k)) (e1 : n = l.length) (e2 : m = k.length) (hn : l.length ≤ 9223372036854775807) :
    Calls Try.prog 13 #[.slice A n c, .slice B m d] w fun e w' => e = .returned (.bool (decide (l = k))) ∧ Below w.heap.size w w' := by
  subst e1; subst e2
  by_cases h : l.length = k.length
  · refine (equal_long A B c d l k w hl hk h.symm hn).mono ?_
    rintro e w' ⟨rfl, rfl⟩
    refine ⟨?_, (Below.refl _ w).alloc (Nat.le_refl _) _⟩
    congr 2
    rw [Bool.eq_iff_iff, beq_iff_eq, decide_eq_true_eq]
  · refine (equal_short A B c d l k w h).mono ?_
    rintro e w' ⟨rfl, rfl⟩
    refine ⟨?_, Below.refl _ _⟩
    rw [decide_eq_false (fun e => h (by rw [e]))]
theorem build_arr (w : World) : (Instr.build 43 #[]).run Try.prog w = .ok (.agg (bs nought).toArray) w := by
  obtain ⟨cs, hcs⟩ : ∃ cs, (bs nought).toArray = cs := ⟨_, rfl⟩
  have hz := run_zero_of arr_zero w
  rw [hcs] at hz ⊢
  simp [Instr.build, Sem.run_bind, hz, Result.andThen, run_underlying Try.underlying43, Try.sizeOf5, Instr.fill, Value.cells]
theorem slice_all (g : Nat) (w : World) : (Instr.sliceAt 43 (.pointer (some ⟨g, 0, none⟩)) none none none).run Try.prog w = .ok (.slice (some ⟨g, 0, none⟩) 272 272) w := by
  simp [Instr.sliceAt, Sem.run_bind, run_underlying Try.underlying43, Result.andThen, Instr.sureAddr, Instr.sliceBounds, Try.sizeOf5, addr_add]
/-- what the last region yields -/
def VS (g8 g1 : Nat) (A : Option Addr) (b : List UInt8) (c : Nat) (r : Bool) (i : Nat) (w : World) (v : Value) : Prop :=
  match i with
  | 0 => v = .slice (some ⟨g8, 0, none⟩) 272 272
  | 1 => v = .pointer (some ⟨g1, 3, none⟩)
  | 2 => v = .slice A b.length c
  | 3 => v = .bool r
  | _ => True
set_option maxHeartbeats 4000000 in
theorem straight_calls (A : Option Addr) (n c : Nat) (l : List Tr) (w : World) (hr : Rc w A (trs l)) (hh : HeldT w l) (e : n = l.length) (hn : n ≤ 1000) (hb : ∀ x ∈ l, x.b.length ≤ 1099511627776) :
    Calls Try.prog 8 #[.slice A n c] w fun e w' => e = .returned (.int .i64 (strG (fun _ => nought) 0 (l.map Tr.val))) ∧ Below w.heap.size w w' := by
  have HR := Hd.mk hr
  have HH := Hd.mk hh
  have HE := Hd.mk e
  have HBL := Hd.mk hb
  obtain ⟨S, hS⟩ : ∃ S, strG (fun _ => nought) 0 (l.map Tr.val) = S := ⟨_, rfl⟩
  rw [hS]
  have HS0 : Hd (strG (fun _ => nought) 0 ((l.drop 0).map Tr.val) = S) := ⟨hS⟩
  clear hr hh e hb hS
  have hmm := @run_makeMap Try.prog
  go_enter Try.func8, Try.ntmps8
  go_wp2
  apply wp_scope_straight
  go_wp2_with (refine wp_label ?_)
  have HC0 : Hd (Slots (w.alloc (.map #[] 0)) w.heap.size (fun _ => nought)) := ⟨_, MapAt.new w, fun p => ⟨nought_len, .inl ⟨rfl, rfl⟩⟩⟩
  have HB0 : Hd (Below w.heap.size w (w.alloc (.map #[] 0))) := ⟨(Below.refl _ _).alloc (Nat.le_refl _) _⟩
  clear hmm
  go_loopw [13] (fun iv wr => ∃ (i : Nat) (f : Int × Int → List UInt8), iv = .int .i64 (i : Int) ∧ i ≤ n ∧ Hd (Below w.heap.size w wr) ∧ Hd (w.heap.size < wr.heap.size) ∧ Hd (Slots wr w.heap.size f) ∧ Hd (strG f i ((l.drop i).map Tr.val) = S)) (fun iv _ => n - (intOf iv).toNat)
  case atStart => exact ⟨0, _, rfl, Nat.zero_le _, HB0, ⟨by rw [World.size_alloc]; omega⟩, HC0, HS0⟩
  case round =>
    obtain ⟨i, f, rfl, hi, HW, HS, HC, HST⟩ := hrel
    clear HC0 HB0 HS0
    by_cases hlt : i < n
    · have hil : i < l.length := by rw [← HE.out]; exact hlt
      have hil2 : (i : Int) < (n : Int) := by omega
      obtain ⟨bb, off, rfl, hbb, hr⟩ := rcK_form trs_len (by decide) HR.out (by omega)
      have hxc := hr i hil wr HW.out
      have hx1 := (HH.out _ (List.getElem_mem hil)).1
      have hxl := HBL.out _ (List.getElem_mem hil)
      have hdr := List.drop_eq_getElem_cons hil
      obtain ⟨x, hx⟩ : ∃ x, l[i] = x := ⟨_, rfl⟩
      rw [hx] at hxc hx1 hxl hdr
      have hst := HST.out
      rw [hdr, List.map_cons] at hst
      obtain ⟨kind, xat, xs, xA, xb, xcap⟩ := x
      have HST := Hd.mk hst
      have HX : Hd (Rc w xA (bs xb)) := ⟨hx1⟩
      have HXL : Hd (xb.length ≤ 1099511627776) := ⟨hxl⟩
      have HXC : Hd (wr.rangeAt bb (off + i * 4) [.int .i64 kind, .int .i64 xat, .int .i64 xs, .slice xA xb.length xcap]) := ⟨hxc⟩
      clear hst hx1 hxl hxc hr hx hdr
      by_cases hk2 : kind = 2
      · subst hk2
        have hlen : 272 ≤ (padB xb 272).length := by unfold padB; simp; omega
        have KP : Hd (Blk ((wr.alloc (.cells #[.int .i64 2, .int .i64 xat, .int .i64 xs, .slice xA xb.length xcap] 39)).alloc (.cells #[.int .i64 xat, .int .i64 xs] 42)) (wr.heap.size + 1) 42 [.int .i64 xat, .int .i64 xs]) := ⟨by have := Blk.new (wr.alloc (.cells #[.int .i64 2, .int .i64 xat, .int .i64 xs, .slice xA xb.length xcap] 39)) 42 [.int .i64 xat, .int .i64 xs]; rw [World.size_alloc] at this; exact this⟩
        have HB2 : Hd (Below wr.heap.size wr ((wr.alloc (.cells #[.int .i64 2, .int .i64 xat, .int .i64 xs, .slice xA xb.length xcap] 39)).alloc (.cells #[.int .i64 xat, .int .i64 xs] 42))) := ⟨((Below.refl _ _).alloc (Nat.le_refl _) _).alloc (by rw [World.size_alloc]; omega) _⟩
        have HLN := Hd.mk hlen
        have HWL := Hd.mk (wideW_len xb)
        have T1 : Hd True := ⟨trivial⟩
        clear hlen
        go_wp2_with (first
          | (clear T1; refine wpList_ldmid rfl 39 (.tmp 16) rfl bb (off + i * 4) rfl [.int .i64 2, .int .i64 xat, .int .i64 xs, .slice xA xb.length xcap] _ HXC.out Try.underlying39 rfl (trace_info.trans rfl) ?_)
          | (go_at_call 12; refine (pad_calls xA xcap xb 272 _ (HX.out.below (HW.out.trans (HB2.out.mono HW.out.size))) HXL.out (by decide) (by decide)).mono ?_
             rintro e w5 ⟨v5, rfl, ho, hb⟩
             obtain ⟨A5, c5, rfl, hc5, hr5, _⟩ := own_rc ho
             have HC5 : Hd (272 ≤ c5) := ⟨Nat.le_trans HLN.out hc5⟩
             obtain ⟨b5, off5, rfl, hb5, hr5⟩ := hr5.form (by rw [bs_len]; have := HLN.out; omega)
             have HR5 : Hd (w5.rangeAt b5 off5 (bs (wideW xb))) := ⟨fun j v hj => hr5 j v (by unfold wideW at hj; rw [bs, List.map_take] at hj; rw [List.getElem?_take] at hj; split at hj; exact hj; cases hj)⟩
             have KP := Hd.mk (KP.out.below hb KP.out.lt)
             have HB5 := Hd.mk (below_then HB2.out HB2.out.size hb)
             have hc5i : (272 : Int) ≤ (c5 : Int) := by have := HC5.out; omega
             have harr := array_at ⟨b5, off5, none⟩ c5
             obtain ⟨w6, hw6, hm1, hm2, hm3⟩ := arr_made w5 43 (bs nought) (bs (wideW xb)) (by rw [bs_len, bs_len, nought_len, HWL.out])
             have HM1 := Hd.mk hm1; have HM2 := Hd.mk hm2; have HW6 := Hd.mk hw6; have HM3 := Hd.mk hm3
             clear ho hb hr5 hb5 hc5 hm1 hm2 hm3 hw6)
          | (refine wpList_ldmid rfl 43 (.tmp 31) rfl b5 off5 rfl (bs (wideW xb)) _ HR5.out Try.underlying43 rfl (arr_size HWL.out) ?_)
          | (refine wpList_val rfl (Instr.alloc 43 true (.tuple #[])) rfl _ _ (run_alloc_of arr_zero w5) ?_)
          | (refine wpList_store_row rfl 43 (.tmp 7) (.tmp 32) rfl w5.heap.size (bs (wideW xb)).toArray rfl rfl 43 (bs nought).toArray (Blk.new w5 43 (bs nought)) (arr_size' HWL.out) (by rw [List.size_toArray, List.size_toArray, bs_len, bs_len, nought_len, HWL.out]) (bs_all _) ?_; rw [HW6.out]
             have HB6 := Hd.mk (below_then HB5.out HB5.out.size HM1.out)
             have KP := Hd.mk (KP.out.below HM1.out KP.out.lt)
             obtain ⟨F, hF, hFq⟩ := HC.out.below HB6.out
             obtain ⟨w9, hu1, hu2, hu3⟩ := run_update_k pkey_ok pmap_und hF (xat, xs) (.pointer (some ⟨w5.heap.size, 0, none⟩))
             have HU1 := Hd.mk hu1; have HU2 := Hd.mk hu2; have HU3 := Hd.mk hu3; have HFQ := Hd.mk hFq
             clear hu1 hu2 hu3 hFq hF)
          | (refine wpList_load_row rfl 42 (.tmp 6) rfl (wr.heap.size + 1) rfl 42 _ (0, 0) _ KP.out Try.underlying42 rfl place_info ?_)
          | (refine wpList_mup rfl 40 (.tmp 33) (.tmp 34) (.tmp 7) rfl w9 HU1.out ?_))
        have HZ : Hd (wr.heap.size ≤ w5.heap.size) := ⟨HB5.out.size⟩
        have HS9 : Hd (w.heap.size < w9.heap.size) := ⟨by have := HU2.out.size; have := HM3.out; have := HS.out; have := HZ.out; omega⟩
        have HB9 : Hd (Below w.heap.size w w9) := ⟨(HW.out.trans (HB6.out.mono HW.out.size)).trans (HU2.out.below (Nat.le_refl _))⟩
        have HC9 : Hd (Slots w9 w.heap.size (fun q => if q = (xat, xs) then wideW xb else f q)) := ⟨_, HU3.out, fun p => by
          by_cases hp : p = (xat, xs)
          · simp only [if_pos hp]
            exact ⟨HWL.out, .inr ⟨w5.heap.size, rfl, by have := HS.out; have := HZ.out; omega, (HU2.out.other _ (by have := HS.out; have := HZ.out; omega)).trans HM2.out⟩⟩
          · simp only [if_neg hp]
            refine ⟨(HFQ.out p).1, ?_⟩
            rcases (HFQ.out p).2 with h | ⟨g, h1, h2, h3⟩
            · exact .inl h
            · exact .inr ⟨g, h1, h2, (HU2.out.other _ (by omega)).trans h3⟩⟩
        have HST9 : Hd (strG (fun q => if q = (xat, xs) then wideW xb else f q) (i + 1) (List.map Tr.val (List.drop (i + 1) l)) = S) := ⟨HST.out⟩
        go_roundw
        case rel => exact ⟨i + 1, _, by go_num, by omega, HB9, HS9, HC9, HST9⟩
        case measure => simp [intOf]; omega
      · by_cases hk1 : kind = 1
        · subst hk1
          have KX : Hd (Blk ((wr.alloc (.cells #[.int .i64 1, .int .i64 xat, .int .i64 xs, .slice xA xb.length xcap] 39)).alloc (.cells #[.int .i64 xat, .int .i64 xs] 42)) wr.heap.size 39 [.int .i64 1, .int .i64 xat, .int .i64 xs, .slice xA xb.length xcap]) := ⟨(Blk.new wr 39 [.int .i64 1, .int .i64 xat, .int .i64 xs, .slice xA xb.length xcap]).alloc _⟩
          have KP : Hd (Blk ((wr.alloc (.cells #[.int .i64 1, .int .i64 xat, .int .i64 xs, .slice xA xb.length xcap] 39)).alloc (.cells #[.int .i64 xat, .int .i64 xs] 42)) (wr.heap.size + 1) 42 [.int .i64 xat, .int .i64 xs]) := ⟨by have := Blk.new (wr.alloc (.cells #[.int .i64 1, .int .i64 xat, .int .i64 xs, .slice xA xb.length xcap] 39)) 42 [.int .i64 xat, .int .i64 xs]; rw [World.size_alloc] at this; exact this⟩
          have HB5 : Hd (Below wr.heap.size wr ((wr.alloc (.cells #[.int .i64 1, .int .i64 xat, .int .i64 xs, .slice xA xb.length xcap] 39)).alloc (.cells #[.int .i64 xat, .int .i64 xs] 42))) := ⟨((Below.refl _ _).alloc (Nat.le_refl _) _).alloc (by rw [World.size_alloc]; omega) _⟩
          obtain ⟨w6, hw6, hm1, hm2, hm3⟩ := arr_made ((wr.alloc (.cells #[.int .i64 1, .int .i64 xat, .int .i64 xs, .slice xA xb.length xcap] 39)).alloc (.cells #[.int .i64 xat, .int .i64 xs] 42)) 43 (bs nought) (bs nought) rfl
          have hsz5 : ((wr.alloc (.cells #[.int .i64 1, .int .i64 xat, .int .i64 xs, .slice xA xb.length xcap] 39)).alloc (.cells #[.int .i64 xat, .int .i64 xs] 42)).heap.size = wr.heap.size + 1 + 1 := by simp
          have KN := Blk.new ((wr.alloc (.cells #[.int .i64 1, .int .i64 xat, .int .i64 xs, .slice xA xb.length xcap] 39)).alloc (.cells #[.int .i64 xat, .int .i64 xs] 42)) 43 (bs nought)
          rw [hsz5] at hw6 hm2 hm3 KN
          have KN := Hd.mk KN
          have hz43 := fun W => run_zero_of arr_zero W
          clear hsz5
          have HM1 := Hd.mk hm1
          have HM2 := Hd.mk hm2
          have HM3 := Hd.mk hm3
          have HW6 := Hd.mk hw6
          clear hm1 hm2 hm3 hw6
          have HB6 := Hd.mk (below_then HB5.out HB5.out.size HM1.out)
          have KP6 := Hd.mk (KP.out.below HM1.out KP.out.lt)
          have KX6 := Hd.mk (KX.out.below HM1.out KX.out.lt)
          obtain ⟨F, hF, hFq⟩ := HC.out.below HB6.out
          have HF := Hd.mk hF
          have hq := hFq (xat, xs)
          have HFL := Hd.mk hq.1
          have hq2 := hq.2
          clear hF hFq hq
          have T1 : Hd True := ⟨trivial⟩
          have T2 : Hd True := ⟨trivial⟩
          have T3 : Hd True := ⟨trivial⟩
          have T4 : Hd True := ⟨trivial⟩
          have T5 : Hd True := ⟨trivial⟩
          have T6 : Hd True := ⟨trivial⟩
          have T7 : Hd True := ⟨trivial⟩
          clear hk2
          rcases hq2 with ⟨hp0, hfn⟩ | ⟨g, hp0, hgr, hkg⟩
          · have HFN := Hd.mk hfn
            clear hfn
            have HLK : Hd ((Instr.lookup 40 (.map (some w.heap.size)) (pkey (xat, xs)) false).run Try.prog w6 = .ok (.pointer none) w6) := ⟨(run_lookup_k pkey_ok pmap_und HF.out (xat, xs) (zero_ptr w6)).trans (by rw [hp0]; rfl)⟩
            clear hp0
            go_wp2_with (first
            | (clear T1; refine wpList_ldmid rfl 39 (.tmp 16) rfl bb (off + i * 4) rfl [.int .i64 1, .int .i64 xat, .int .i64 xs, .slice xA xb.length xcap] _ HXC.out Try.underlying39 rfl (trace_info.trans rfl) ?_)
            | (clear T4; refine wpList_store_row rfl 43 (.tmp 8) (.tmp 37) rfl (wr.heap.size + 1 + 1) (bs nought).toArray rfl rfl 43 (bs nought).toArray KN.out (arr_size' nought_len) rfl (bs_all _) ?_; rw [HW6.out])
            | (clear T5; refine wpList_load_row rfl 42 (.tmp 6) rfl (wr.heap.size + 1) rfl 42 _ (0, 0) _ KP6.out Try.underlying42 rfl place_info ?_)
            | (clear T6; refine wpList_lkp rfl 40 (.tmp 38) (.tmp 39) false rfl (.pointer none) HLK.out ?_))
            have hfn := HFN.out
            have KW : Hd (Blk w6 (wr.heap.size + 1 + 1) 43 (bs (f (xat, xs)))) := ⟨by rw [hfn]; exact HM2.out⟩
            have KX := KX6
            have HB7 : Hd (Below w.heap.size w w6) := ⟨HW.out.trans (HB6.out.mono HW.out.size)⟩
            have HZ7 : Hd (w.heap.size ≤ w6.heap.size) := ⟨HB7.out.size⟩
            have HS7 : Hd (w.heap.size < w6.heap.size) := ⟨by have := HM3.out; have := HW.out.size; omega⟩
            have HC7 : Hd (Slots w6 w.heap.size f) := ⟨HC.out.below HB6.out⟩
            obtain ⟨g8, hg8⟩ : ∃ g, (wr.heap.size + 1 + 1) = g := ⟨_, rfl⟩
            clear HM1 HM2 HM3 HW6 KP KP6 HLK HF HB5 hfn
            simp only [hg8] at *
            obtain ⟨r, hr⟩ : ∃ r, decide (f (xat, xs) = xb) = r := ⟨_, rfl⟩
            refine region_stp (VS g8 wr.heap.size xA xb xcap (decide (f (xat, xs) = xb))) (fun _ W _ => Aft w6 W) NoR (by kernel_rfl) (by kernel_rfl) (by kernel_rfl) (by kernel_rfl) (fun _ => Aft.start w6) ?stab ?steps ?fin
            case stab => intro i j w1 w2 v o ho hij hwt hR h; exact h
            case steps =>
              refine StepsG.cons ?_ (StepsG.cons ?_ (StepsG.cons ?_ (StepsG.cons ?_ StepsG.nil)))
              · intro L ff A w9 Q hL hG hsz hlow hun hnl hp
                have e8 : A.tmps.getD 8 undef = Value.pointer (some ⟨g8, 0, none⟩) := hlow 8 rfl
                clear hlow hun hnl hp
                refine wpOp_go rfl rfl (wp_val (Instr.sliceAt 43 (A.tmps.getD 8 undef) none none none) rfl _ w9 (by rw [e8]; exact slice_all _ _) ?_)
                exact ⟨_, rfl, hG, ⟨⟩, rfl⟩
              · intro L ff A w9 Q hL hG hsz hlow hun hnl hp
                have e5 : A.tmps.getD 5 undef = Value.pointer (some ⟨wr.heap.size, 0, none⟩) := hlow 5 rfl
                clear hlow hun hnl hp
                refine wpOp_go rfl rfl ?_
                go_simp
                first | exact ⟨_, rfl, hG, ⟨⟩, rfl⟩ | exact ⟨hG, ⟨⟩, rfl⟩ | exact ⟨hG, rfl⟩ | exact hG | exact ⟨hG, ⟨⟩⟩ | exact ⟨_, rfl, hG, ⟨⟩, trivial⟩ | exact ⟨_, rfl, ⟨⟩, rfl⟩ | exact ⟨⟨⟩, rfl⟩
              · intro L ff A w9 Q hL hG hsz hlow hun hnl hp
                have f1 : ff 1 = Value.pointer (some ⟨wr.heap.size, 3, none⟩) := (hp 1 rfl).2.1
                have e47 : A.tmps.getD 47 undef = Value.pointer (some ⟨wr.heap.size, 3, none⟩) := ((hp 1 rfl).2.2 47 rfl).trans f1
                have hcx := (hG.blk KX.out).cell (i := 3) rfl
                clear hlow hun hnl hp
                refine wpOp_go rfl rfl ?_
                go_simp
                first | exact ⟨_, rfl, hG, ⟨⟩, rfl⟩ | exact ⟨hG, ⟨⟩, rfl⟩ | exact ⟨hG, rfl⟩ | exact hG | exact ⟨hG, ⟨⟩⟩ | exact ⟨_, rfl, hG, ⟨⟩, trivial⟩ | exact ⟨_, rfl, ⟨⟩, rfl⟩ | exact ⟨⟨⟩, rfl⟩
              · intro L ff A w9 Q hL hG hsz hlow hun hnl hp
                have f0 : ff 0 = Value.slice (some ⟨g8, 0, none⟩) 272 272 := (hp 0 rfl).2.1
                have e46 : A.tmps.getD 46 undef = Value.slice (some ⟨g8, 0, none⟩) 272 272 := ((hp 0 rfl).2.2 46 rfl).trans f0
                have f2 : ff 2 = Value.slice xA xb.length xcap := (hp 2 rfl).2.1
                have e48 : A.tmps.getD 48 undef = Value.slice xA xb.length xcap := ((hp 2 rfl).2.2 48 rfl).trans f2
                clear hlow hun hnl hp
                refine wpOp_go rfl rfl ?_
                go_simp
                refine (equal_any _ _ 272 xb.length 272 xcap (f (xat, xs)) xb w9 (hG.blk KW.out).rc (HX.out.below (HB7.out.trans (hG.mono HZ7.out))) HFL.out.symm rfl (by rw [HFL.out]; decide)).mono ?_
                rintro e w10 ⟨rfl, hb⟩
                exact ⟨_, rfl, hG.call hb, ⟨⟩, congrArg Value.bool hr⟩
            case fin =>
              intro L ff w9 hLL hG hV
              have h3 : ff 3 = _ := hV 3 (by simp)
              have HG := Hd.mk hG
              rw [hr] at h3
              have HW9 := Hd.mk (HB7.out.trans (hG.mono HZ7.out))
              have HS9 : Hd (w.heap.size < w9.heap.size) := ⟨Nat.lt_of_lt_of_le HS7.out hG.size⟩
              have HC9 := Hd.mk (HC7.out.below hG)
              clear hG hV hLL
              simp only [fillD, Act.put, List.setIfInBounds_toArray, List.set_cons_zero, List.set_cons_succ]
              rw [h3]
              cases r
              · have HN : Hd ((i : Int) = S) := ⟨(strG_no (of_decide_eq_false hr)).symm.trans HST.out⟩
                clear hr h3
                go_wp2_with (fail)
                dsimp only [Exit.noGoto]
                go_ret
                exact ⟨by rw [HN.out]; rfl, HW9.out⟩
              · have HN : Hd (strG f (i + 1) (List.map Tr.val (List.drop (i + 1) l)) = S) := ⟨(strG_yes (of_decide_eq_true hr)).symm.trans HST.out⟩
                clear hr h3
                go_wp2_with (fail)
                go_roundw
                case rel => exact ⟨i + 1, _, by go_num, by omega, HW9, HS9, HC9, HN⟩
                case measure => simp [intOf]; omega
          · have HKG := Hd.mk hkg
            clear hkg hgr
            have HLK : Hd ((Instr.lookup 40 (.map (some w.heap.size)) (pkey (xat, xs)) false).run Try.prog w6 = .ok (.pointer (some ⟨g, 0, none⟩)) w6) := ⟨(run_lookup_k pkey_ok pmap_und HF.out (xat, xs) (zero_ptr w6)).trans (by rw [hp0]; rfl)⟩
            clear hp0
            go_wp2_with (first
            | (clear T1; refine wpList_ldmid rfl 39 (.tmp 16) rfl bb (off + i * 4) rfl [.int .i64 1, .int .i64 xat, .int .i64 xs, .slice xA xb.length xcap] _ HXC.out Try.underlying39 rfl (trace_info.trans rfl) ?_)
            | (clear T4; refine wpList_store_row rfl 43 (.tmp 8) (.tmp 37) rfl (wr.heap.size + 1 + 1) (bs nought).toArray rfl rfl 43 (bs nought).toArray KN.out (arr_size' nought_len) rfl (bs_all _) ?_; rw [HW6.out])
            | (clear T5; refine wpList_load_row rfl 42 (.tmp 6) rfl (wr.heap.size + 1) rfl 42 _ (0, 0) _ KP6.out Try.underlying42 rfl place_info ?_)
            | (clear T6; refine wpList_lkp rfl 40 (.tmp 38) (.tmp 39) false rfl (.pointer (some ⟨g, 0, none⟩)) HLK.out ?_)
            | (clear T7; refine wpList_load_row rfl 43 (.tmp 44) rfl g rfl 43 _ (0, 0) _ HKG.out Try.underlying43 rfl (arr_size' HFL.out) ?_)
            | (refine wpList_store_row rfl 43 (.tmp 8) (.tmp 45) rfl (wr.heap.size + 1 + 1) (bs (f (xat, xs))).toArray rfl rfl 43 (bs nought).toArray HM2.out (arr_size' HFL.out) (by rw [List.size_toArray, List.size_toArray, bs_len, bs_len, nought_len, HFL.out]) (bs_all _) ?_))
            have KW : Hd (Blk (w6.setRow (wr.heap.size + 1 + 1) (bs (f (xat, xs))).toArray) (wr.heap.size + 1 + 1) 43 (bs (f (xat, xs)))) := ⟨HM2.out.putRow _⟩
            have KX := Hd.mk ((KX6.out).rowFar (show wr.heap.size ≠ (wr.heap.size + 1 + 1) by omega) (bs (f (xat, xs))).toArray)
            have HB7 : Hd (Below w.heap.size w (w6.setRow (wr.heap.size + 1 + 1) (bs (f (xat, xs))).toArray)) := ⟨below_row (HW.out.trans (HB6.out.mono HW.out.size)) (by have := HW.out.size; omega) _⟩
            have HZ7 : Hd (w.heap.size ≤ (w6.setRow (wr.heap.size + 1 + 1) (bs (f (xat, xs))).toArray).heap.size) := ⟨HB7.out.size⟩
            have HS7 : Hd (w.heap.size < (w6.setRow (wr.heap.size + 1 + 1) (bs (f (xat, xs))).toArray).heap.size) := ⟨by have := HM3.out; have := HW.out.size; simp; omega⟩
            have HC7 : Hd (Slots (w6.setRow (wr.heap.size + 1 + 1) (bs (f (xat, xs))).toArray) w.heap.size f) := ⟨by
              obtain ⟨F', h1, h2⟩ := HC.out
              have hbb := (Below.refl wr.heap.size wr).trans (below_row (g := wr.heap.size + 1 + 1) HB6.out (by omega) (bs (f (xat, xs))).toArray)
              exact (show Slots wr w.heap.size f from ⟨F', h1, h2⟩).below hbb⟩
            obtain ⟨g8, hg8⟩ : ∃ g, (wr.heap.size + 1 + 1) = g := ⟨_, rfl⟩
            clear HM1 HM2 HM3 HW6 KP KP6 HLK HF HB5
            change Code.wp Try.prog _ _ _ (w6.setRow (wr.heap.size + 1 + 1) (bs (f (xat, xs))).toArray)
            generalize (w6.setRow (wr.heap.size + 1 + 1) (bs (f (xat, xs))).toArray) = w7 at *
            simp only [hg8] at *
            obtain ⟨r, hr⟩ : ∃ r, decide (f (xat, xs) = xb) = r := ⟨_, rfl⟩
            refine region_stp (VS g8 wr.heap.size xA xb xcap (decide (f (xat, xs) = xb))) (fun _ W _ => Aft w7 W) NoR (by kernel_rfl) (by kernel_rfl) (by kernel_rfl) (by kernel_rfl) (fun _ => Aft.start w7) ?stab ?steps ?fin
            case stab => intro i j w1 w2 v o ho hij hwt hR h; exact h
            case steps =>
              refine StepsG.cons ?_ (StepsG.cons ?_ (StepsG.cons ?_ (StepsG.cons ?_ StepsG.nil)))
              · intro L ff A w9 Q hL hG hsz hlow hun hnl hp
                have e8 : A.tmps.getD 8 undef = Value.pointer (some ⟨g8, 0, none⟩) := hlow 8 rfl
                clear hlow hun hnl hp
                refine wpOp_go rfl rfl (wp_val (Instr.sliceAt 43 (A.tmps.getD 8 undef) none none none) rfl _ w9 (by rw [e8]; exact slice_all _ _) ?_)
                exact ⟨_, rfl, hG, ⟨⟩, rfl⟩
              · intro L ff A w9 Q hL hG hsz hlow hun hnl hp
                have e5 : A.tmps.getD 5 undef = Value.pointer (some ⟨wr.heap.size, 0, none⟩) := hlow 5 rfl
                clear hlow hun hnl hp
                refine wpOp_go rfl rfl ?_
                go_simp
                first | exact ⟨_, rfl, hG, ⟨⟩, rfl⟩ | exact ⟨hG, ⟨⟩, rfl⟩ | exact ⟨hG, rfl⟩ | exact hG | exact ⟨hG, ⟨⟩⟩ | exact ⟨_, rfl, hG, ⟨⟩, trivial⟩ | exact ⟨_, rfl, ⟨⟩, rfl⟩ | exact ⟨⟨⟩, rfl⟩
              · intro L ff A w9 Q hL hG hsz hlow hun hnl hp
                have f1 : ff 1 = Value.pointer (some ⟨wr.heap.size, 3, none⟩) := (hp 1 rfl).2.1
                have e47 : A.tmps.getD 47 undef = Value.pointer (some ⟨wr.heap.size, 3, none⟩) := ((hp 1 rfl).2.2 47 rfl).trans f1
                have hcx := (hG.blk KX.out).cell (i := 3) rfl
                clear hlow hun hnl hp
                refine wpOp_go rfl rfl ?_
                go_simp
                first | exact ⟨_, rfl, hG, ⟨⟩, rfl⟩ | exact ⟨hG, ⟨⟩, rfl⟩ | exact ⟨hG, rfl⟩ | exact hG | exact ⟨hG, ⟨⟩⟩ | exact ⟨_, rfl, hG, ⟨⟩, trivial⟩ | exact ⟨_, rfl, ⟨⟩, rfl⟩ | exact ⟨⟨⟩, rfl⟩
              · intro L ff A w9 Q hL hG hsz hlow hun hnl hp
                have f0 : ff 0 = Value.slice (some ⟨g8, 0, none⟩) 272 272 := (hp 0 rfl).2.1
                have e46 : A.tmps.getD 46 undef = Value.slice (some ⟨g8, 0, none⟩) 272 272 := ((hp 0 rfl).2.2 46 rfl).trans f0
                have f2 : ff 2 = Value.slice xA xb.length xcap := (hp 2 rfl).2.1
                have e48 : A.tmps.getD 48 undef = Value.slice xA xb.length xcap := ((hp 2 rfl).2.2 48 rfl).trans f2
                clear hlow hun hnl hp
                refine wpOp_go rfl rfl ?_
                go_simp
                refine (equal_any _ _ 272 xb.length 272 xcap (f (xat, xs)) xb w9 (hG.blk KW.out).rc (HX.out.below (HB7.out.trans (hG.mono HZ7.out))) HFL.out.symm rfl (by rw [HFL.out]; decide)).mono ?_
                rintro e w10 ⟨rfl, hb⟩
                exact ⟨_, rfl, hG.call hb, ⟨⟩, congrArg Value.bool hr⟩
            case fin =>
              intro L ff w9 hLL hG hV
              have h3 : ff 3 = _ := hV 3 (by simp)
              have HG := Hd.mk hG
              rw [hr] at h3
              have HW9 := Hd.mk (HB7.out.trans (hG.mono HZ7.out))
              have HS9 : Hd (w.heap.size < w9.heap.size) := ⟨Nat.lt_of_lt_of_le HS7.out hG.size⟩
              have HC9 := Hd.mk (HC7.out.below hG)
              clear hG hV hLL
              simp only [fillD, Act.put, List.setIfInBounds_toArray, List.set_cons_zero, List.set_cons_succ]
              rw [h3]
              cases r
              · have HN : Hd ((i : Int) = S) := ⟨(strG_no (of_decide_eq_false hr)).symm.trans HST.out⟩
                clear hr h3
                go_wp2_with (fail)
                dsimp only [Exit.noGoto]
                go_ret
                exact ⟨by rw [HN.out]; rfl, HW9.out⟩
              · have HN : Hd (strG f (i + 1) (List.map Tr.val (List.drop (i + 1) l)) = S) := ⟨(strG_yes (of_decide_eq_true hr)).symm.trans HST.out⟩
                clear hr h3
                go_wp2_with (fail)
                go_roundw
                case rel => exact ⟨i + 1, _, by go_num, by omega, HW9, HS9, HC9, HN⟩
                case measure => simp [intOf]; omega
        · have T1 : Hd True := ⟨trivial⟩
          have KX : Hd (Blk ((wr.alloc (.cells #[.int .i64 kind, .int .i64 xat, .int .i64 xs, .slice xA xb.length xcap] 39)).alloc (.cells #[.int .i64 xat, .int .i64 xs] 42)) wr.heap.size 39 [.int .i64 kind, .int .i64 xat, .int .i64 xs, .slice xA xb.length xcap]) := ⟨(Blk.new wr 39 [.int .i64 kind, .int .i64 xat, .int .i64 xs, .slice xA xb.length xcap]).alloc _⟩
          have KP : Hd (Blk ((wr.alloc (.cells #[.int .i64 kind, .int .i64 xat, .int .i64 xs, .slice xA xb.length xcap] 39)).alloc (.cells #[.int .i64 xat, .int .i64 xs] 42)) (wr.heap.size + 1) 42 [.int .i64 xat, .int .i64 xs]) := ⟨by have := Blk.new (wr.alloc (.cells #[.int .i64 kind, .int .i64 xat, .int .i64 xs, .slice xA xb.length xcap] 39)) 42 [.int .i64 xat, .int .i64 xs]; rw [World.size_alloc] at this; exact this⟩
          have HB5 : Hd (Below wr.heap.size wr ((wr.alloc (.cells #[.int .i64 kind, .int .i64 xat, .int .i64 xs, .slice xA xb.length xcap] 39)).alloc (.cells #[.int .i64 xat, .int .i64 xs] 42))) := ⟨((Below.refl _ _).alloc (Nat.le_refl _) _).alloc (by rw [World.size_alloc]; omega) _⟩
          have HS9 : Hd (w.heap.size < ((wr.alloc (.cells #[.int .i64 kind, .int .i64 xat, .int .i64 xs, .slice xA xb.length xcap] 39)).alloc (.cells #[.int .i64 xat, .int .i64 xs] 42)).heap.size) := ⟨by simp; have := HS.out; omega⟩
          have HB9 := Hd.mk (HW.out.trans (HB5.out.mono HW.out.size))
          have HC9 := Hd.mk (HC.out.below HB5.out)
          have HST9 : Hd (strG f (i + 1) (List.map Tr.val (List.drop (i + 1) l)) = S) := ⟨(strG_else hk2 hk1).symm.trans HST.out⟩
          go_wp2_with ((clear T1; refine wpList_ldmid rfl 39 (.tmp 16) rfl bb (off + i * 4) rfl [.int .i64 kind, .int .i64 xat, .int .i64 xs, .slice xA xb.length xcap] _ HXC.out Try.underlying39 rfl (trace_info.trans rfl) ?_))
          go_roundw
          case rel => exact ⟨i + 1, _, by go_num, by omega, HB9, HS9, HC9, HST9⟩
          case measure => simp [intOf]; omega
    · obtain rfl : i = n := by omega
      have e0 : l.drop i = [] := by rw [HE.out]; exact List.drop_length
      have hst := HST.out
      rw [e0] at hst
      have HN : Hd ((-1 : Int) = S) := ⟨hst⟩
      clear hst e0
      go_wp2
      dsimp only [Exit.noGoto]
      go_ret
      exact ⟨by rw [HN.out]; rfl, HW.out⟩
end Go.Proofs.Ytpahmlgbljfcjaa
