/- Walks: what the chapter's example fixes; contracts for any call. -/
import Derived.Test.YtmebgejjaljhgaaP13b
namespace Go.Proofs.Ytmebgejjaljhgaa
open Go.RowKit Go.Sac
set_option linter.unusedVariables false
set_option linter.unusedSimpArgs false

def exI : List Int := [1, 1, 5, 0, 0, 0, 0, 0, 0, 0]
theorem exI_right : rightB exI = true := by decide
theorem ex_spans : spansOf 250 10 = [(0, 250, 256), (1, 0, 4)] := by decide
theorem decode_any (A : Option Addr) (n c : Nat) (b : List UInt8) (w : World) (hl : Rc w A (bs b)) (e1 : n = b.length) (hc : b.length ≤ c) (hn : b.length ≤ 1099511627776) :
    Calls Try.prog 24 #[.slice A n c] w (RetI (decX b) (decE b) w) := by subst e1; exact decode_calls A c b w hl hc hn
theorem rdecode_any (A : Option Addr) (n c : Nat) (b : List UInt8) (w : World) (hl : Rc w A (bs b)) (e1 : n = b.length) (hc : b.length ≤ c) (hn : b.length ≤ 1000000) :
    Calls Try.prog 25 #[.slice A n c] w (RetI (decX b) (decE b) w) := by subst e1; exact rdecode_calls A c b w hl hc hn
theorem spans_same_any (A B : Option Addr) (n k c d : Nat) (l m : List Spn) (w : World) (hl : Rc w A (spc l)) (hm : Rc w B (spc m)) (e1 : n = l.length) (e2 : k = m.length) (hn : l.length ≤ 1000000) (r : Bool) (hr : (l == m) = r) :
    Calls Try.prog 15 #[.slice A n c, .slice B k d] w fun e w' => e = .returned (.bool r) ∧ Below w.heap.size w w' := by subst e1; subst e2; subst hr; exact spans_same A B c d l m w hl hm hn
/-- an inode that is encoded, its bytes named -/
def EncIs (xs : List Int) (l : List UInt8) (er : Int) : Prop := ∀ w, Calls Try.prog 11 #[ino xs] w (RetE 5 l er w)
theorem enc_is (xs : List Int) (hx : xs.length = 10) {l : List UInt8} {er : Int} (h : encB xs = l ∧ encE xs = er) : Hd (EncIs xs l er) := ⟨fun w => by
  obtain ⟨h1, h2⟩ := h
  have := encode_calls xs w hx
  rwa [h1, h2] at this⟩
set_option maxHeartbeats 4000000 in
theorem known_calls (w : World) : Calls Try.prog 13 #[] w (RetT w) := by
  obtain ⟨b, hb⟩ : ∃ b, encB exI = b := ⟨_, rfl⟩
  have he : encE exI = 0 := by unfold encE; rw [exI_right]; rfl
  have HE := enc_is exI rfl ⟨hb, he⟩
  have hd := decX_enc (xs := exI) rfl exI_right
  have hlen := encB_len exI_right
  rw [hb] at hd hlen
  have HD := Hd.mk hd
  have HL := Hd.mk hlen
  have HQ : Hd (∀ w, (Op.equalIn 10000 24 (ino exI) (ino exI)).run Try.prog w = .ok true w) := ⟨fun w => by rw [eq_inode exI exI rfl rfl w]; exact congrArg (Result.ok · w) (beq_self_eq_true exI)⟩
  have HS := Hd.mk ex_spans
  have HI : Hd (ino exI = .agg #[.int .i64 1, .int .i64 1, .int .i64 5, .int .i64 0, .int .i64 0, .int .i64 0, .int .i64 0, .int .i64 0, .int .i64 0, .int .i64 0]) := ⟨rfl⟩
  clear hb he hd hlen
  go_enter Try.func13, Try.ntmps13
  go_wp2_with (first
    | (go_at_call 11; refine (HE.out _).mono ?_; rintro e w1 ⟨v1, rfl, ho, hb⟩; rw [HL.out] at ho; obtain ⟨A1, c1, rfl, hc1, hr1, _⟩ := own_rc ho; have HR1 := Hd.mk (And.intro hr1 hc1); have HB := Hd.mk hb; clear ho hb hr1 hc1)
    | (go_at_call 24; refine (decode_any A1 64 c1 b _ HR1.out.1 HL.out.symm (by have := HL.out; have := HR1.out.2; omega) (by have := HL.out; omega)).mono ?_; rintro e w2 ⟨rfl, hb⟩; rw [HD.out.1, HD.out.2, HI.out]; have HB := Hd.mk (below_then HB.out HB.out.size hb); have HX : Hd (Blk (w2.alloc (.cells #[.int .i64 1, .int .i64 1, .int .i64 5, .int .i64 0, .int .i64 0, .int .i64 0, .int .i64 0, .int .i64 0, .int .i64 0, .int .i64 0] 24)) w2.heap.size 24 (ns exI)) := ⟨Blk.new w2 _ (ns exI)⟩; have HB := Hd.mk (HB.out.alloc HB.out.size (.cells #[.int .i64 1, .int .i64 1, .int .i64 5, .int .i64 0, .int .i64 0, .int .i64 0, .int .i64 0, .int .i64 0, .int .i64 0, .int .i64 0] 24)); clear hb)
    | (refine wpList_load_row_w rfl 24 (.tmp 3) rfl w2.heap.size rfl 24 (ns exI).toArray (0, 0) _ HX.out Try.underlying24 rfl (info_inode.trans rfl) ?_)
    | (refine wpList_eql_w true rfl 24 _ (.tmp 22) (.tmp 23) rfl (ns exI).toArray (ns exI).toArray rfl rfl (by kernel_rfl) (HQ.out _) ?_)
    | (go_at_call 16; refine (spans_calls 250 10 _).mono ?_; rintro e w3 ⟨v3, rfl, ho, hb⟩; rw [HS.out] at ho; obtain ⟨A3, c3, rfl, hc3, hr3, _⟩ := own_rc ho; have HR3 := Hd.mk hr3; have HB := Hd.mk (below_then HB.out HB.out.size hb); clear ho hb hr3 hc3)
    | (go_at_call 15; refine (spans_same_any A3 _ _ _ c3 _ [(0, 250, 256), (1, 0, 4)] [(0, 250, 256), (1, 0, 4)] _ (HR3.out.alloc _) (Blk.new _ _ _).rc rfl rfl (by decide) true (by decide)).mono ?_; rintro e w4 ⟨rfl, hb⟩; have HB := Hd.mk (below_then (HB.out.alloc HB.out.size _) (by have := HB.out.size; simp; omega) hb); clear hb))
  go_ret
  exact ⟨rfl, HB.out⟩
end Go.Proofs.Ytmebgejjaljhgaa
