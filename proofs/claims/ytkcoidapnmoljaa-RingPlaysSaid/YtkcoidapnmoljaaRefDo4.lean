/-
  hostlerlaw06.do: PutAll.
-/
import Derived.Test.YtkcoidapnmoljaaRefDo3
namespace Go.Proofs.Ytkcoidapnmoljaa.Rng
open Go.RowKit
open Go.Proofs.Ytkcoidapnmoljaa.Ints
set_option linter.unusedVariables false

theorem owns_set {w : World} {base g k m c : Nat} {ys : List Int} (h : Owns w base (.slice (some ⟨g, 0, none⟩) m c) ys) (hm : ys.length = m) (y : Int) :
    Owns (w.setCell ⟨g, k, none⟩ (.int .i64 y)) base (.slice (some ⟨g, 0, none⟩) m c) (ys.set k y) ∧ w.grownBy (w.setCell ⟨g, k, none⟩ (.int .i64 y)) (some g) := by
  subst hm
  have h1 := World.ownsRow.stored h k (.int .i64 y)
  refine ⟨?_, h1.2⟩
  unfold Owns
  rw [List.length_set, List.map_set]
  exact h1.1
theorem owns_head {w : World} {base m c : Nat} {a : Option Addr} {ys : List Int} (h : Owns w base (.slice a m c) ys) (hm : ys.length = m) (k : Nat) (hk : k < m) : ∃ g y, a = some ⟨g, 0, none⟩ ∧ w.cell? ⟨g, k, none⟩ = some (.int .i64 y) ∧ w.frozen? ⟨g, k, none⟩ = false ∧ m ≤ c := by
  subst hm
  obtain ⟨_, _, e, hcap, _⟩ := Owns.parts h
  cases e
  rcases h.2 with ⟨e, h0⟩ | ⟨g, cap, cur, e, _⟩
  · omega
  · cases e
    refine ⟨g, ys[k], rfl, ?_, World.ownsRow.frozenAt h k, hcap⟩
    rw [World.ownsRow.cellAt h k (by omega)]
    simp [hk]

theorem doc_putall' {w : World} {lo : Nat} {row l told row' : List Int} {s v : Value} {is : Bool} {nx st : Int} (hs : Ref w lo s row) (hlo : lo ≤ w.heap.size) (hn : row.length ≤ 256) (hv : Ref w lo v l) (hl : l.length ≤ 90000) (h1 : l.drop (256 - row.length) = told) (h2 : row ++ l.take (256 - row.length) = row') :
    Calls Try.prog 31 #[RV s is nx st, v] w fun e w' => ∃ a c a2 c2, e = .returned (.tuple #[.agg #[.slice a row'.length c, .bool is, .int .i64 nx, .int .i64 st], .slice a2 told.length c2]) ∧ Ref w' lo (.slice a row'.length c) row' ∧ Ref w' lo (.slice a2 told.length c2) told ∧ Below w.heap.size w w' ∧ ∀ j, (Value.slice a row'.length c).ownBlock = some j → w.heap.size ≤ j := by
  subst h1 h2
  refine (rputall_is is nx st hs hlo hn hv hl).mono ?_
  rintro e w' ⟨s', o, rfl, hr, ho, hb, _⟩
  obtain ⟨a, c, rfl, _⟩ := id hr
  obtain ⟨a2, c2, rfl, _⟩ := id ho
  exact ⟨a, c, a2, c2, rfl, hr.lower hlo, ho, hb, fun j hj => own_low hr hj⟩
theorem ring_putall' {w : World} {b : Nat} {row l told row' : List Int} {nxt : Option Int} {st : Int} {v : Value} (r : IsR w b row nxt st) (base : Nat) (hl : Owns w base v l) (hb : b < base) (hbig : l.length ≤ 1000000) (h1 : l.drop (256 - row.length) = told) (h2 : row ++ l.take (256 - row.length) = row') :
    Calls Try.prog 10 #[.pointer (some ⟨b, 0, none⟩), v] w (RingEnd w b told row' nxt st) := by
  subst h1 h2
  exact ring_putall r base hl hb hbig

theorem do_fin {w W : World} {b lo B : Nat} {row : List Int} {nxt : Option Int} {st : Int} {v : Value} {z0 z1 z2 z3 : Value} (e6 : W.heap[B]? = some (.cells #[z0, z1, z2, z3] TR (0, 0))) (hr : IsR W b row nxt st) (hf : Ref W lo v row) (hv : ∀ j, v.ownBlock = some j → j ≠ B) (hb : b ≠ B) (hB : w.heap.size ≤ B) (hg : w.grownBy W (some b)) (v1 v2 v3 v4 : Value) :
    ((((W.setCell ⟨B, 0, none⟩ v1).setCell ⟨B, 1, none⟩ v2).setCell ⟨B, 2, none⟩ v3).setCell ⟨B, 3, none⟩ v4).heap[B]? = some (.cells #[v1, v2, v3, v4] TR (0, 0)) ∧
    IsR ((((W.setCell ⟨B, 0, none⟩ v1).setCell ⟨B, 1, none⟩ v2).setCell ⟨B, 2, none⟩ v3).setCell ⟨B, 3, none⟩ v4) b row nxt st ∧
    Ref ((((W.setCell ⟨B, 0, none⟩ v1).setCell ⟨B, 1, none⟩ v2).setCell ⟨B, 2, none⟩ v3).setCell ⟨B, 3, none⟩ v4) lo v row ∧
    w.grownBy ((((W.setCell ⟨B, 0, none⟩ v1).setCell ⟨B, 1, none⟩ v2).setCell ⟨B, 2, none⟩ v3).setCell ⟨B, 3, none⟩ v4) (some b) :=
  ⟨four_set e6, hr.heap (four_other hb), ref_four_at hf hv, hg.os, hg.tape, hg.output, by rw [four_size]; exact hg.size, fun j hj hne => (four_other (by omega)).trans (hg.block j hj hne)⟩

theorem row_x (w : World) (f x : Int) (n : Nat) (hx : x = n) (h1 : -1000000000000 ≤ f) (h2 : f ≤ 1000000000000) (hn : n ≤ 1000000) :
    Calls Try.prog 11 #[.int .i64 f, .int .i64 x] w fun e w' => ∃ v, e = .returned v ∧ Owns w' w.heap.size v (upFrom f n) ∧ w.grownBy w' none := by subst hx; exact row_is w f n h1 h2 hn
theorem tmod_in (g : Int) : -4096 < g.tmod 4096 ∧ g.tmod 4096 < 4096 := by
  by_cases h : 0 ≤ g
  · rw [Int.tmod_eq_emod_of_nonneg h]; omega
  · have e : g.tmod 4096 = -((-g).tmod 4096) := by rw [Int.neg_tmod]; omega
    rw [e, Int.tmod_eq_emod_of_nonneg (by omega)]; omega

set_option maxRecDepth 100000 in
set_option maxHeartbeats 4000000 in
theorem do_all {w : World} {s : Value} {b lo : Nat} {row : List Int} {nxt : Option Int} {st : Int} (k g n : Int) (r : IsR w b row nxt st) (hs : Ref w lo s row) (hlb : b < lo) (hlo : lo ≤ w.heap.size) (hk : 0 ≤ k) (hn : 0 ≤ n) (h9 : k % 9 = 4) :
    Calls Try.prog 21 #[.pointer (some ⟨b, 0, none⟩), RV s nxt.isSome (nxt.getD 0) st, .agg #[.int .u8 k, .int .i64 g, .int .u16 n]] w (DoEnd w b lo) := by
  have hl := row_le r
  have HR := Lib.hid r
  have HS := Lib.hid hs
  have HVB : Hid (∀ j, s.ownBlock = some j → j < w.heap.size) := Lib.hid fun j hj => ref_block hs hj
  have hbl := r.lt
  obtain ⟨a, cap, rfl, _⟩ := hs
  obtain ⟨is, his⟩ : ∃ is, nxt.isSome = is := ⟨_, rfl⟩
  obtain ⟨nx, hnx⟩ : ∃ nx, nxt.getD 0 = nx := ⟨_, rfl⟩
  obtain ⟨m, hm⟩ : ∃ m : Nat, n % 300 = m := ⟨(n % 300).toNat, by omega⟩
  have hm300 : m < 300 := by omega
  have hf := tmod_in g
  obtain ⟨f, hfe⟩ : ∃ f, g.tmod 4096 = f := ⟨_, rfl⟩
  rw [hfe] at hf
  have HF := Lib.hid hf
  obtain ⟨own, how⟩ : ∃ own, upFrom f m = own := ⟨_, rfl⟩
  have hol : own.length = m := by rw [← how, upFrom_len]
  obtain ⟨told, ht⟩ : ∃ told, own.drop (256 - row.length) = told := ⟨_, rfl⟩
  obtain ⟨row', hr'⟩ : ∃ row', row ++ own.take (256 - row.length) = row' := ⟨_, rfl⟩
  have HE := Lib.hid (And.intro his (And.intro hnx (And.intro how (And.intro hol (And.intro ht hr')))))
  rw [his, hnx]
  have ek : k.tmod 9 = k % 9 := Int.tmod_eq_emod_of_nonneg hk
  have en : n.tmod 300 = n % 300 := Int.tmod_eq_emod_of_nonneg hn
  rw [h9] at ek
  rw [hm] at en
  have HM := Lib.hid hm
  clear his hnx how hol ht hr' r h9 hm hf
  unfold RV
  go_enter Try.func21, Try.ntmps21
  go_wp2_with fail
  refine (row_x _ _ _ m (by omega) (by have := HF.out; omega) (by have := HF.out; omega) (by omega)).mono ?_
  rintro e w1 ⟨v, rfl, ho, hg1⟩
  rw [HE.out.2.2.1] at ho
  obtain ⟨a0, c0, rfl, _⟩ := Owns.parts ho
  rw [HE.out.2.2.2.1] at ho ⊢
  have hs3 : ((((w.alloc (.cells #[.slice a row.length cap, .bool is, .int .i64 nx, .int .i64 st] TR)).alloc (.cells #[.int .u8 k, .int .i64 g, .int .u16 n] TA)).alloc (.cells #[.slice none 0 0, .bool false, .int .i64 0, .int .i64 0] TR))).heap.size = w.heap.size + 3 := by simp
  have hb1 := below_none (Below.refl _ _) hg1 (Nat.le_refl _)
  rw [hs3] at ho
  obtain ⟨hA, hB, hC, hbw, hsz⟩ := three_blocks w w1 _ _ _ hb1
  obtain ⟨x0, x1, x2, x3, xf⟩ := four hA
  have H1 := Lib.hid (And.intro ho (And.intro hb1 hbw))
  clear ho hg1 hb1 hA hB hC hbw
  go_wp2_with fail
  refine (doc_putall' (Ref.below HS.out H1.out.2.2) (by omega) hl (Owns.ref (lo := lo) H1.out.1 (by omega)) (by have := HE.out.2.2.2.1; omega) HE.out.2.2.2.2.1 HE.out.2.2.2.2.2).mono ?_
  rintro e w2 ⟨a1, c1, a2, c2, rfl, hr, hs, hb, hap⟩
  have hb2 := H1.out.2.1.trans (hb.mono H1.out.2.1.size)
  have D := Lib.hid (dost_mk (is := is) (nx := nx) (st := st) HR.out HS.out hlb hlo hb2 hr hs (fun j hj => .inr (by have := hap j hj; rw [hs3]; omega)))
  obtain ⟨hA, hB, hC, hbw, hsz2⟩ := three_blocks w w2 _ _ _ hb2
  have ho2 : Owns (w2.alloc (.cells #[.slice a1 row'.length c1, .bool is, .int .i64 nx, .int .i64 st] TR)) (w.heap.size + 3) (.slice a0 m c0) own := (H1.out.1.below hb).below ((Below.refl _ _).alloc (Nat.le_refl _) _)
  have HO := Lib.hid ho2
  have hob : Hid (∀ j, (Value.slice a0 m c0).ownBlock = some j → w.heap.size + 3 ≤ j ∧ j < w1.heap.size) := Lib.hid fun j hj => ⟨(H1.out.1.block hj).1, (H1.out.1.block hj).2⟩
  have hap' : Hid (∀ j, (Value.slice a1 row'.length c1).ownBlock = some j → w1.heap.size ≤ j) := Lib.hid hap
  have hsz12 := hb.size
  clear hr hs hb hA hB hC hbw hap ho2 H1 hb2 hs3
  clear x0 x1 x2 x3 xf
  go_wp2_with fail
  generalize hB8 : w2.heap.size = B8 at *
  generalize (w2.alloc (.cells #[.slice a1 row'.length c1, .bool is, .int .i64 nx, .int .i64 st] TR)) = W at *
  refine (ring_putall' D.out.ring (w.heap.size + 3) HO.out (by omega) (by have := HE.out.2.2.2.1; omega) HE.out.2.2.2.2.1 HE.out.2.2.2.2.2).mono ?_
  rintro e w3 ⟨a3, c3, rfl, hs3, hr3, hg3⟩
  have H3 := Lib.hid (And.intro hs3 (And.intro hr3 hg3))
  clear hs3 hr3 hg3
  go_wp2_with fail
  refine (same_x H3.out.1 (D.out.told.grown H3.out.2.2 hlb).sees).mono ?_
  rintro e w4 ⟨rfl, hd⟩
  have H4 := Lib.hid (And.intro (H3.out.2.1.heap (congrArg (fun h => h[b]?) hd.heap)) (grown_drawn H3.out.2.2 hd))
  clear hd
  have ho4 : Owns w4 (w.heap.size + 3) (.slice a0 m c0) own := HO.out.grown H4.out.2 (fun j e hj => by have := Option.some.inj e; have := (hob.out _ hj).1; omega)
  have HO4 := Lib.hid ho4
  clear ho4
  go_wp2_with fail
  go_loopw [87] (fun i wr => ∃ (q : Nat) (ys : List Int), q ≤ m ∧ i = .int .i64 q ∧ ys.length = m ∧ Owns wr (w.heap.size + 3) (.slice a0 m c0) ys ∧ w4.grownBy wr (Value.slice a0 m c0).ownBlock) (fun i _ => m - (intOf i).toNat)
  case atStart => exact ⟨0, own, Nat.zero_le _, rfl, HE.out.2.2.2.1, HO4.out, World.grownBy.refl _ _⟩
  case round =>
    clear HO4
    obtain ⟨q, ys, hq, rfl, hyl, hoy, hgy⟩ := hrel
    have HY := Lib.hid (And.intro hyl (And.intro hoy hgy))
    clear hyl hoy hgy
    by_cases hqm : q < m
    · obtain ⟨g0, y, rfl, hcell, hfr, hmc⟩ := owns_head HY.out.2.1 HY.out.1 q hqm
      go_wp2_with fail
      go_roundw
      case rel => exact ⟨q + 1, ys.set q _, by omega, by go_num, by rw [List.length_set]; exact HY.out.1, (owns_set HY.out.2.1 HY.out.1 _).1, grown_trans HY.out.2.2 (owns_set HY.out.2.1 HY.out.1 _).2 (fun j e => .inr (by rw [← e]; rfl))⟩
      case measure => simp [intOf]; omega
    · obtain rfl : q = m := by omega
      have hk : ∀ j, j < W.heap.size → j ≠ b → (Value.slice a0 q c0).ownBlock ≠ some j → wr.heap[j]? = W.heap[j]? := fun j hj hb ho => (HY.out.2.2.block j (Nat.lt_of_lt_of_le hj H4.out.2.size) (fun e => ho e.symm)).trans (H4.out.2.block j hj (fun e => hb (Option.some.inj e)))
      have hl8 := D.out.lt8
      have hl6 := D.out.lt6
      have hb8 := D.out.b8
      have ho8 : ∀ j, B8 ≤ j → (Value.slice a0 q c0).ownBlock ≠ some j := fun j hj e => by have := (hob.out j e).2; omega
      have ho6 : ∀ j, j < w.heap.size + 3 → (Value.slice a0 q c0).ownBlock ≠ some j := fun j hj e => by have := (hob.out j e).1; omega
      have e8 := (hk B8 hl8 (by omega) (ho8 B8 (Nat.le_refl _))).trans D.out.c8
      have e6 := (hk _ hl6 (by omega) (ho6 _ (by omega))).trans D.out.c6
      have hr : IsR wr b row' nxt st := H4.out.1.heap (HY.out.2.2.block b H4.out.1.lt (fun e => ho6 b (by omega) e.symm))
      have hf : Ref wr lo (.slice a1 row'.length c1) row' := ref_at D.out.ref (Nat.le_trans H4.out.2.size HY.out.2.2.size) (fun j hj => hk j (ref_block D.out.ref hj) (by have := hap'.out j hj; omega) (fun e => by have := hap'.out j hj; have := (hob.out j e).2; omega))
      have hg : w.grownBy wr (some b) := ⟨HY.out.2.2.os.trans (H4.out.2.os.trans D.out.below.os), HY.out.2.2.tape.trans (H4.out.2.tape.trans D.out.below.tape), HY.out.2.2.output.trans (H4.out.2.output.trans D.out.below.output), Nat.le_trans D.out.below.size (Nat.le_trans H4.out.2.size HY.out.2.2.size), fun j hj hne => (hk j (by omega) (fun e => hne (by rw [e])) (ho6 j (by omega))).trans (D.out.below.block j hj)⟩
      have FH := Lib.hid (do_fin e6 hr hf (fun j hj => by have := hap'.out j hj; omega) (by omega) (by omega) hg (.slice a1 row'.length c1) (.bool is) (.int .i64 nx) (.int .i64 st))
      obtain ⟨x0, x1, x2, x3, _⟩ := four e8
      obtain ⟨u0, u1, u2, u3, uf⟩ := four e6
      clear hk ho8 ho6 e8 e6 hr hf hg hl8 hl6
      go_wp2_with fail
      refine bodyPost_ret (results_rv rfl _ _ (w.heap.size + 1 + 1) _ _ _ _ (.bool true) FH.out.1 rfl rfl) rfl ⟨row', nxt, st, a1, c1, ?_, FH.out.2.1, FH.out.2.2.1, FH.out.2.2.2⟩
      rw [HE.out.1, HE.out.2.1]; rfl
end Go.Proofs.Ytkcoidapnmoljaa.Rng
