/-
  The law RingFull.
-/
import Derived.Test.YtkcoidapnmoljaaRingLives
import Derived.Deep.DeepCutAuto
import Derived.Deep.RegionWith
namespace Go.Proofs.Ytkcoidapnmoljaa.Rng
open Go.RowKit
open Go.Proofs.Ytkcoidapnmoljaa.Ints
set_option linter.unusedVariables false

theorem up_drop (f : Int) (n m k : Nat) (h : m + k = n) : (upFrom f n).drop m = upFrom (f + m) k := by
  subst h
  apply List.ext_getElem?
  intro i
  rw [List.getElem?_drop]
  by_cases hi : i < k
  · rw [upFrom_get _ _ _ (by omega), upFrom_get _ _ _ hi]; congr 1; push_cast; omega
  · rw [List.getElem?_eq_none (by rw [upFrom_len]; omega), List.getElem?_eq_none (by rw [upFrom_len]; omega)]
theorem up_take (f : Int) (n k : Nat) (h : k ≤ n) : (upFrom f n).take k = upFrom f k := by
  apply List.ext_getElem?
  intro i
  rw [List.getElem?_take]
  by_cases hi : i < k
  · rw [if_pos hi, upFrom_get _ _ _ (by omega), upFrom_get _ _ _ hi]
  · rw [if_neg hi, List.getElem?_eq_none (by rw [upFrom_len]; omega)]

/-- What PutAll needs of an argument that is owned behind the ring. -/
theorem putall_own {w : World} {b base : Nat} {row l : List Int} {nxt : Option Int} {st : Int} {v : Value} (r : IsR w b row nxt st) (hl : Owns w base v l) (hb : b < base) (hbig : l.length ≤ 1000000) (n : Nat) (hn : n = min l.length (256 - row.length)) :
    Calls Try.prog 10 #[.pointer (some ⟨b, 0, none⟩), v] w fun e w' => ∃ v a c, e = .returned v ∧ v = .slice a (l.length - n) c ∧ l.length - n ≤ c ∧ Owns w' w.heap.size v (l.drop n) ∧ IsR w' b (row ++ l.take n) nxt st ∧ w.grownBy w' (some b) := by
  obtain ⟨a, cap, rfl, hcap, hs, hblk⟩ := Owns.parts hl
  refine (putall_is r a cap hs hcap (fun c hc => ⟨fun e => by have := (hblk c hc).1; omega, (hblk c hc).2⟩) hbig n hn).mono ?_
  rintro e w' ⟨v, rfl, ho, hr, hg⟩
  obtain ⟨a2, cap2, rfl, hc2, _⟩ := Owns.parts ho
  rw [List.length_drop] at hc2
  exact ⟨_, a2, cap2, rfl, by rw [List.length_drop], hc2, ho, hr, hg⟩

theorem row_128 (w : World) : Calls Try.prog 11 #[.int .i64 0, .int .i64 128] w fun e w' => ∃ v, e = .returned v ∧ Sees w' v (upFrom 0 128) ∧ w.grownBy w' none :=
  (row_is w 0 128 (by decide) (by decide) (by decide)).mono fun e w' ⟨v, h, ho, hg⟩ => ⟨v, h, ho.sees, hg⟩
theorem below_of_none {a a' b : World} (h : a'.grownBy b none) (d : Drawn a a') : Below a.heap.size a b :=
  ⟨h.os.trans d.os, h.tape.trans d.tape, h.output.trans d.output, by rw [← d.heap]; exact h.size, fun j hj => (h.block j (by rw [d.heap]; exact hj) (by simp)).trans (by rw [d.heap])⟩
theorem len_128 {w : World} {b : Nat} {st f : Int} (r : IsR w b (upFrom f 128) none st) :
    Calls Try.prog 16 #[.pointer (some ⟨b, 0, none⟩)] w fun e w' => e = .returned (.int .i64 128) ∧ w = w' := len_is r 128 (by rw [upFrom_len]; rfl)
theorem max_is {P : Program} {ts : Array TypeId} {t : TypeId} {x y z : Int} {W : World} (h : (if x < y then y else x) = z) : (Builtin.max_ ts t #[.int .i64 x, .int .i64 y]).run P W = .ok (.int .i64 z) W := by
  rw [← h]; simp [Builtin.max_, Builtin.max2]
theorem below_wide {w a b : World} {B : Nat} (h : Below B w a) (k : Below a.heap.size a b) (hB : B ≤ a.heap.size) : Below B w b :=
  h.trans ⟨k.os, k.tape, k.output, k.size, fun j hj => k.block j (Nat.lt_of_lt_of_le hj hB)⟩
theorem row_128b (w : World) : Calls Try.prog 11 #[.int .i64 128, .int .i64 128] w fun e w' => ∃ v, e = .returned v ∧ Sees w' v (upFrom 128 128) ∧ w.grownBy w' none :=
  (row_is w 128 128 (by decide) (by decide) (by decide)).mono fun e w' ⟨v, h, ho, hg⟩ => ⟨v, h, ho.sees, hg⟩
theorem up_app_len {n k : Nat} (h : n ≤ k) : (upFrom 128 128 ++ (upFrom 1000 k).take n).length = 128 + n := by rw [List.length_append, upFrom_len, up_take _ _ _ h, upFrom_len]
theorem len_up {w : World} {b n k : Nat} {st : Int} (r : IsR w b (upFrom 128 128 ++ (upFrom 1000 k).take n) none st) (h : n ≤ k) :
    Calls Try.prog 16 #[.pointer (some ⟨b, 0, none⟩)] w fun e w' => e = .returned (.int .i64 (128 + (n : Int))) ∧ w = w' := len_is r _ (by rw [up_app_len h]; simp)
theorem list_up {w : World} {b n k : Nat} {st : Int} (r : IsR w b (upFrom 128 128 ++ (upFrom 1000 k).take n) none st) (h : n ≤ k) :
    Calls Try.prog 17 #[.pointer (some ⟨b, 0, none⟩)] w fun e w' => ∃ a c, e = .returned (.slice a (128 + n) c) ∧ (128 : Int) ≤ (c : Int) ∧ Sees w' (.slice a 128 c) (upFrom 128 128) ∧ w.grownBy w' none := by
  refine (list_is r).mono ?_
  rintro e w' ⟨v, rfl, ho, hg⟩
  obtain ⟨a, c, rfl, hc, hs, _⟩ := Owns.parts ho
  have hl : (upFrom 128 128 ++ (upFrom 1000 k).take n ++ (none : Option Int).toList).length = 128 + n := by simpa using up_app_len h
  rw [hl] at hc
  refine ⟨a, c, by rw [hl], by omega, ?_, hg⟩
  have := Sees.take hs 128 (by rw [hl]; omega)
  rwa [List.append_assoc, List.take_left' (upFrom_len _ _)] at this
theorem isr_drew {w : World} {b : Nat} {row : List Int} {nxt : Option Int} {st : Int} (r : IsR w b row nxt st) : IsR w.drew b row nxt st := r.heap rfl
theorem cells_drew {w : World} {a : Addr} {v : Value} (h : w.cell? a = some v) (n : Nat) : (w.drewN n).cell? a = some v := by rw [World.cell?_drewN]; exact h
theorem below_drawn {a b c : World} (h : Below a.heap.size a b) (d : Drawn b c) : Below a.heap.size a c := h.trans (d.below _)

set_option maxRecDepth 100000 in
set_option maxHeartbeats 2000000 in
theorem full_is (g : Int) (m : Nat) (hm : m < 65536) (w : World) : Calls Try.prog 4 #[.int .i64 g, .int .u16 m] w fun e w' => e = .returned (.bool true) ∧ Below w.heap.size w w' := by
  obtain ⟨k, hk⟩ : ∃ k : Nat, k = m % 200 := ⟨_, rfl⟩
  have ek : (m : Int).tmod 200 = (k : Int) := by rw [Int.tmod_eq_emod_of_nonneg (by omega)]; omega
  have ek2 : (m : Int) % 200 = (k : Int) := by omega
  have ek3 : m % 200 = k := hk.symm
  have hk40 : k < 200 := by omega
  clear hk
  go_enter Try.func4, Try.ntmps4
  go_wp2_with fail
  refine (lives_is w).mono ?_
  rintro e w0 ⟨rfl, hb⟩
  have HB := Lib.hid hb
  clear hb
  go_wp2_with fail
  refine (new_is w0).mono ?_
  rintro e w1 ⟨rfl, hr, hg⟩
  have hrb : w.heap.size ≤ w0.heap.size := HB.out.size
  have H1 := Lib.hid (And.intro hr (below_none HB.out hg HB.out.size))
  clear hr hg
  generalize w0.heap.size = b at *
  clear HB
  go_wp2_with fail
  refine (row_is w1 0 256 (by decide) (by decide) (by omega)).mono ?_
  rintro e w2 ⟨v, rfl, ho, hg⟩
  have H2 := Lib.hid (And.intro (H1.out.1.heap (hg.block b H1.out.1.lt (by simp))) (below_none H1.out.2 hg H1.out.2.size))
  have HO := Lib.hid ho
  clear hg ho
  go_wp2_with fail
  refine (putall_own H2.out.1 HO.out H1.out.1.lt (by rw [upFrom_len]; omega) 256 (by rw [upFrom_len]; simp)).mono ?_
  rintro e w3 ⟨v, a, c, rfl, rfl, hc, ho, hr, hg⟩
  have hr3 : IsR w3 b (upFrom 0 256) none 0 := by simpa [up_take] using hr
  rw [show (upFrom 0 256).length - 256 = 0 from by simp [upFrom_len]]
  have H3 := Lib.hid (And.intro hr3 (below_step H2.out.2 hg hrb H2.out.2.size))
  clear hr hr3 hg ho HO hc
  go_wp2_with fail
  have hl9 : Owns (w3.alloc (.cells #[.int .i64 9, .int .i64 8] 3)) w3.heap.size (.slice (some ⟨w3.heap.size, 0, none⟩) 2 2) [9, 8] := World.ownsRow_lit w3 #[.int .i64 9, .int .i64 8] 2 (Nat.le_refl _) (by decide) rfl
  refine (putall_own (H3.out.1.below ((Below.refl _ _).alloc (Nat.le_refl _) _)) hl9 H3.out.1.lt (by decide) 0 (by rw [upFrom_len]; rfl)).mono ?_
  rintro e w4 ⟨v, a, c, rfl, rfl, hc, ho, hr, hg⟩
  have hr4 : IsR w4 b (upFrom 0 256) none 0 := by simpa using hr
  have H4 := Lib.hid (And.intro hr4 (below_step (H3.out.2.alloc H3.out.2.size _) hg hrb (Nat.le_trans H3.out.2.size (by simp))))
  have HS := Lib.hid (show Sees w4 (.slice a ([(9 : Int), 8].length - 0) c) [9, 8] from ho.sees)
  clear hr hr4 hg ho hc hl9
  go_wp2_with fail
  refine (same_any (HS.out.below ((Below.refl _ _).alloc (Nat.le_refl _) _)) (Owns.sees (show Owns _ w4.heap.size _ [9, 8] from World.ownsRow_lit w4 #[.int .i64 9, .int .i64 8] 2 (Nat.le_refl _) (by decide) rfl))).mono ?_
  rintro e w5 ⟨rfl, hd⟩
  have hb5 := (Below.refl w4.heap.size w4).alloc (Nat.le_refl _) (.cells #[.int .i64 9, .int .i64 8] 3)
  have hb5' := hb5.trans (hd.below _)
  have H5 := Lib.hid (And.intro (H4.out.1.below hb5') (H4.out.2.trans ⟨hb5'.os, hb5'.tape, hb5'.output, hb5'.size, fun j hj => hb5'.block j (Nat.lt_of_lt_of_le hj H4.out.2.size)⟩))
  clear hd hb5 hb5' HS
  go_wp2_with fail
  refine (put_full H5.out.1 (upFrom_len _ _) g).mono ?_
  rintro e w6 ⟨v, rfl, ho, hr, hg⟩
  have hr6 : IsR w6 b (upFrom 128 128) none 0 := by rw [up_drop 0 256 128 128 (by decide)] at hr; exact hr
  rw [up_take 0 256 128 (by decide)] at ho
  have H6 := Lib.hid (And.intro hr6 (below_step H5.out.2 hg hrb H5.out.2.size))
  obtain ⟨a6, cap6, rfl, hcap6, hs6, hblk6⟩ := Owns.parts ho
  have hl6 : (upFrom 0 128 ++ [g]).length = 129 := by rw [List.length_append, upFrom_len]; rfl
  rw [hl6] at hcap6 
  have hcell : ∃ c, a6 = some c ∧ w6.cell? (c.add 128) = some (.int .i64 g) := by
    obtain ⟨_, _, e, _, _, h⟩ := hs6; cases e
    exact h 128 g (by rw [List.getElem?_append_right (by rw [upFrom_len]; omega), upFrom_len]; rfl)
  obtain ⟨c6, rfl, hcell⟩ := hcell
  have hs6' : Sees w6 (.slice (some c6) 128 cap6) (upFrom 0 128) := by
    have := Sees.take hs6 128 (by rw [hl6]; omega)
    rwa [List.take_left' (upFrom_len _ _)] at this
  have HS6 := Lib.hid hs6'
  have HC6 : Hid (w6.cell? ⟨c6.block, c6.off + 128, none⟩ = some (.int .i64 g)) := Lib.hid hcell
  have h128 : (128 : Int) ≤ cap6 := by omega
  have hblk := Lib.hid (hblk6 c6 rfl)
  rw [hl6]
  clear hr hr6 hg ho hs6 hblk6 hl6 hcell hs6'
  go_upto_region 7 with fail
  go_cut [49] from 28 to 49 (fun s wx => s = .bool false ∧ IsR wx b (upFrom 128 128) none 0 ∧ Below w.heap.size w wx)
  case first =>
    go_region_with (first
      | (go_at_call 11; refine (row_128 _).mono ?_; rintro e w7 ⟨v7, rfl, hs7, hg7⟩; have HS7 := Lib.hid hs7; have HB7 : Hid (Below w6.heap.size w6 w7) := Lib.hid (below_of_none (a := w6) hg7 ⟨rfl, rfl, rfl, rfl⟩); clear hs7 hg7)
      | (go_at_call 14; refine (same_any (HS6.out.below HB7.out) HS7.out).mono ?_; rintro e w8 ⟨rfl, hd⟩; have HB8 := Lib.hid (below_drawn HB7.out hd); have hc8 : w8.cell? ⟨c6.block, c6.off + 128, none⟩ = some (.int .i64 g) := cell_later HB8.out HC6.out; have hc9 := cells_drew hc8; clear hd)
      | (go_at_call 16; refine (len_128 (H6.out.1.below HB8.out)).mono ?_; rintro e w9 ⟨rfl, rfl⟩))
    all_goals (go_wp2_with fail; go_meet; exact ⟨rfl, H6.out.1.below HB8.out, below_wide H6.out.2 HB8.out H6.out.2.size⟩)
  case rest =>
    obtain ⟨rfl, hr, hb⟩ := hcut
    have H7 := Lib.hid (And.intro hr hb)
    clear hr hb HS6 HC6 hblk H1 H2 H3 H4 H5 H6 h128 hcap6
    obtain ⟨n, hn⟩ : ∃ n : Nat, n = min k 128 := ⟨_, rfl⟩
    have hn1 : n ≤ k := by omega
    have hn2 : n ≤ 128 := by omega
    have hmax : ∀ (ts : Array TypeId) (t : TypeId) (W : World), (Builtin.max_ ts t #[.int .i64 0, .int .i64 ((k : Int) - 128)]).run Try.prog W = .ok (.int .i64 ((k - n : Nat) : Int)) W := fun ts t W => max_is (by split <;> omega)
    have hmin : ∀ (ts : Array TypeId) (t : TypeId) (W : World), (Builtin.min_ ts t #[.int .i64 (k : Int), .int .i64 128]).run Try.prog W = .ok (.int .i64 (n : Int)) W := fun ts t W => by rw [run_min_mn, show mn (k : Int) 128 = (n : Int) from by unfold mn; split <;> omega]
    have hw1 : IntKind.i64.wrap ((k : Int) - 128) = (k : Int) - 128 := by rw [IntKind.wrap_i64]; omega
    have hw2 : IntKind.i64.wrap (128 + (n : Int)) = 128 + (n : Int) := by rw [IntKind.wrap_i64]; omega
    have HN := Lib.hid hn
    clear hn
    go_wp2_with fail
    refine (row_is wc 1000 k (by decide) (by decide) (by omega)).mono ?_
    rintro e w8 ⟨v8, rfl, ho, hg⟩
    have H8 := Lib.hid (And.intro (H7.out.1.heap (hg.block b H7.out.1.lt (by simp))) (below_none H7.out.2 hg H7.out.2.size))
    have HO := Lib.hid ho
    clear hg ho
    go_wp2_with fail
    refine (putall_own H8.out.1 HO.out H7.out.1.lt (by rw [upFrom_len]; omega) n (by rw [upFrom_len, upFrom_len]; have := HN.out; omega)).mono ?_
    rintro e w9 ⟨v, a, c, rfl, rfl, hc, ho, hr, hg⟩
    rw [upFrom_len]
    have H9 := Lib.hid (And.intro hr (below_step H8.out.2 hg hrb H8.out.2.size))
    clear hr hg ho hc
    go_wp2_with fail
    go_region_with (first
      | (go_at_call 16; refine (len_up (isr_drew H9.out.1) hn1).mono ?_; rintro e w10 ⟨rfl, rfl⟩)
      | (go_at_call 17; refine (list_up (isr_drew H9.out.1) hn1).mono ?_; rintro e w11 ⟨a11, c11, rfl, h128, hs11, hg11⟩; have HS11 := Lib.hid hs11; have HB11 : Hid (Below w9.heap.size w9 w11) := Lib.hid (below_of_none (a := w9) hg11 ⟨rfl, rfl, rfl, rfl⟩); clear hs11 hg11)
      | (go_at_call 11; refine (row_128b _).mono ?_; rintro e w12 ⟨v12, rfl, hs12, hg12⟩; have HS12 := Lib.hid hs12; have HB12 : Hid (Below w11.heap.size w11 w12) := Lib.hid (below_of_none (a := w11) hg12 ⟨rfl, rfl, rfl, rfl⟩); clear hs12 hg12)
      | (go_at_call 14; refine (same_any (HS11.out.below HB12.out) HS12.out).mono ?_; rintro e w13 ⟨rfl, hd⟩; have HB13 := Lib.hid (below_drawn HB12.out hd); clear hd))
    all_goals (go_wp2_with fail; go_ret; exact ⟨rfl, below_wide (below_wide H9.out.2 HB11.out H9.out.2.size) HB13.out (Nat.le_trans H9.out.2.size HB11.out.size)⟩)

theorem full_any (g a : Int) (h : 0 ≤ a ∧ a ≤ 65535) (w : World) : Calls Try.prog 4 #[.int .i64 g, .int .u16 a] w fun e w' => e = .returned (.bool true) ∧ Below w.heap.size w w' := by
  obtain ⟨m, rfl⟩ : ∃ m : Nat, a = m := ⟨a.toNat, by omega⟩
  exact full_is g m (by omega) w
end Go.Proofs.Ytkcoidapnmoljaa.Rng
