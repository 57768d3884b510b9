/-
  hostlerref11: Put and Mark.
-/
import Derived.Test.YtlhblhgbpaipaaaGreatMgRp
namespace Go.Proofs.YtlhblhgbpaipaaaGreat.Pl
open Go.RowKit
set_option linter.unusedVariables false
set_option linter.unusedSimpArgs false

theorem ownsR_heap {w w' : World} {base n len : Nat} {T : TypeId} {v : Value} {cs : List Value} (h : w.ownsRow base T n v len cs) (hb : ∀ j, v.ownBlock = some j → w'.heap[j]? = w.heap[j]?) : w'.ownsRow base T n v len cs := by
  obtain ⟨h0, h⟩ := h
  refine ⟨h0, ?_⟩
  rcases h with h | ⟨g, cap, cur, rfl, h1, h2, h3⟩
  · exact .inl h
  · exact .inr ⟨g, cap, cur, rfl, h1, (hb g rfl).trans h2, h3⟩
theorem ownsR_kept {w w' : World} {base n len : Nat} {T : TypeId} {v : Value} {cs : List Value} (h : w.ownsRow base T n v len cs) (hb : Below w.heap.size w w') : w'.ownsRow base T n v len cs :=
  ownsR_heap h fun j hj => hb.block j (World.ownsRow.lt h j hj).2
theorem ownsR_lower {w : World} {base base' n len : Nat} {T : TypeId} {v : Value} {cs : List Value} (h : w.ownsRow base T n v len cs) (hb : base' ≤ base) : w.ownsRow base' T n v len cs := by
  obtain ⟨h0, h⟩ := h
  refine ⟨h0, ?_⟩
  rcases h with h | ⟨g, cap, cur, e, h1, h2⟩
  · exact .inl h
  · exact .inr ⟨g, cap, cur, e, Nat.le_trans hb h1, h2⟩
theorem below_ownR {w a b : World} {v : Value} {B n m len : Nat} {T : TypeId} {cs : List Value} (h : Below n w a) (ho : a.ownsRow B T m v len cs) (k : a.grownBy b v.ownBlock) (hB : n ≤ a.heap.size ∧ n ≤ B) : Below n w b :=
  ⟨k.os.trans h.os, k.tape.trans h.tape, k.output.trans h.output, Nat.le_trans h.size k.size, fun j hj => (k.block j (by omega) (fun e => by have := (World.ownsRow.lt ho j e.symm).1; omega)).trans (h.block j hj)⟩

/-- append of one more. -/
theorem wpList_append_oneW {ops : Array Oper} {rest : List Oper} {o : Oper} {a : Act} {Q : Exit → Act → World → Prop} (hgd : o.guard = none) (s x : Operand)
    (ho : o.op = .call { callee := .builtin .append, args := #[s, x], argTypes := #[30, 30] }) (W : World) (base : Nat) (v : Value) (D : List (Int × Int)) (e : Int × Int)
    (N : Nat) (hN : W.heap.size = N) (hs : a.eval s = v) (hown : OwnsW W base v D) (hx : a.eval x = .slice (some ⟨N, 0, none⟩) 1 1) (hlen : D.length ≤ 100000) (hbase : base ≤ W.heap.size)
    (h : ∀ v' w', OwnsW w' base v' (D ++ [e]) → W.grownBy w' v.ownBlock → wpList Tryz.prog ops Q rest (a.put o.dst v') w') : wpList Tryz.prog ops Q (o :: rest) a (W.alloc (.cells #[.int .i64 e.1, .int .i64 e.2] TW)) := by
  subst hN
  obtain ⟨i0, hi, hz0, hz1, hz2⟩ := info_parts infoW
  refine wpList_append_own _ hgd s x 30 ho base TW i0 _ 2 16 Tryz.underlying30 hi hz0 hz1 hz2 rfl (by decide) v D.length (flatW D) hs (World.ownsRow.alloc hown _) ⟨W.heap.size, 0, none⟩ 1 1 [.int .i64 e.1, .int .i64 e.2] hx rfl (World.news_of_block (cs := #[.int .i64 e.1, .int .i64 e.2]) (heap_alloc_new _ _)) (by simp [Value.oneCell']) (by unfold maxLen; omega) (by omega) (by simp; omega) fun v' w' h1 h2 _ => h v' w' (by unfold OwnsW; simpa [flatW] using h1) ?_
  exact ⟨h2.os, h2.tape, h2.output, Nat.le_trans (by simp) h2.size, fun j hj hne => (h2.block j (by simp; omega) hne).trans (by rw [heap_alloc_old (h := hj)])⟩
/-- append of a row that is there to an empty one. -/
theorem wpList_append_rowW {ops : Array Oper} {rest : List Oper} {o : Oper} {a : Act} {Q : Exit → Act → World → Prop} (hgd : o.guard = none) (s x : Operand)
    (ho : o.op = .call { callee := .builtin .append, args := #[s, x], argTypes := #[30, 30] }) (W : World) (lo m c : Nat) (ad : Addr) (D : List (Int × Int))
    (N : Nat) (hN : W.heap.size = N) (hs : a.eval s = .slice (some ⟨N, 0, none⟩) 0 0) (hx : a.eval x = .slice (some ad) m c) (hD : WSees W lo (.slice (some ad) m c) D) (hm : m = D.length) (hlen : D.length ≤ 100000)
    (h : ∀ v' w', OwnsW w' N v' D → Below N W w' → wpList Tryz.prog ops Q rest (a.put o.dst v') w') : wpList Tryz.prog ops Q (o :: rest) a (W.alloc (.cells #[] TW)) := by
  subst hN hm
  obtain ⟨i0, hi, hz0, hz1, hz2⟩ := info_parts infoW
  have hcs : ∀ j u, (flatW D)[j]? = some u → (W.alloc (.cells #[] TW)).cell? (ad.add j) = some u := fun j u hj => by
    obtain ⟨_, _, e, _, _, _, hc⟩ := RSees.below hD (below_alloc (w := W) (.cells #[] TW))
    obtain ⟨rfl, _, _⟩ := Value.slice.inj e
    obtain ⟨c', h5, h6⟩ := hc j u hj
    cases h5; exact h6
  refine wpList_append_own _ hgd s x 30 ho W.heap.size TW i0 _ 2 16 Tryz.underlying30 hi hz0 hz1 hz2 rfl (by decide) _ 0 [] hs (World.ownsRow_made W #[] 0 (Nat.le_refl _) (Nat.zero_le _) rfl) ad D.length c (flatW D) hx (flatW_len D) hcs (flatW_one D) (by unfold maxLen; omega) (by omega) (by simp) fun v' w' h1 h2 _ => h v' w' (by unfold OwnsW; simpa using h1) ?_
  exact ⟨h2.os, h2.tape, h2.output, Nat.le_trans (by simp) h2.size, fun j hj => (h2.block j (by simp; omega) (by simp [Value.ownBlock]; omega)).trans (by rw [heap_alloc_old (h := hj)])⟩
/-- append of one more. -/
theorem wpList_append_oneI {ops : Array Oper} {rest : List Oper} {o : Oper} {a : Act} {Q : Exit → Act → World → Prop} (hgd : o.guard = none) (s x : Operand)
    (ho : o.op = .call { callee := .builtin .append, args := #[s, x], argTypes := #[31, 31] }) (W : World) (base : Nat) (v : Value) (D : List Int) (e : Int)
    (N : Nat) (hN : W.heap.size = N) (hs : a.eval s = v) (hown : OwnsI W base v D) (hx : a.eval x = .slice (some ⟨N, 0, none⟩) 1 1) (hlen : D.length ≤ 100000) (hbase : base ≤ W.heap.size)
    (h : ∀ v' w', OwnsI w' base v' (D ++ [e]) → W.grownBy w' v.ownBlock → wpList Tryz.prog ops Q rest (a.put o.dst v') w') : wpList Tryz.prog ops Q (o :: rest) a (W.alloc (.cells #[.int .i64 e] 3)) := by
  subst hN
  obtain ⟨i0, hi, hz0, hz1, hz2⟩ := info_parts infoInt
  refine wpList_append_own _ hgd s x 31 ho base 3 i0 _ 1 8 Tryz.underlying31 hi hz0 hz1 hz2 rfl (by decide) v D.length (flatI D) hs (World.ownsRow.alloc hown _) ⟨W.heap.size, 0, none⟩ 1 1 [.int .i64 e] hx rfl (World.news_of_block (cs := #[.int .i64 e]) (heap_alloc_new _ _)) (by simp [Value.oneCell']) (by unfold maxLen; omega) (by omega) (by simp; omega) fun v' w' h1 h2 _ => h v' w' (by unfold OwnsI; simpa [flatI] using h1) ?_
  exact ⟨h2.os, h2.tape, h2.output, Nat.le_trans (by simp) h2.size, fun j hj hne => (h2.block j (by simp; omega) hne).trans (by rw [heap_alloc_old (h := hj)])⟩
/-- append of a row that is there to an empty one. -/
theorem wpList_append_rowI {ops : Array Oper} {rest : List Oper} {o : Oper} {a : Act} {Q : Exit → Act → World → Prop} (hgd : o.guard = none) (s x : Operand)
    (ho : o.op = .call { callee := .builtin .append, args := #[s, x], argTypes := #[31, 31] }) (W : World) (lo m c : Nat) (ad : Addr) (D : List Int)
    (N : Nat) (hN : W.heap.size = N) (hs : a.eval s = .slice (some ⟨N, 0, none⟩) 0 0) (hx : a.eval x = .slice (some ad) m c) (hD : ISees W lo (.slice (some ad) m c) D) (hm : m = D.length) (hlen : D.length ≤ 100000)
    (h : ∀ v' w', OwnsI w' N v' D → Below N W w' → wpList Tryz.prog ops Q rest (a.put o.dst v') w') : wpList Tryz.prog ops Q (o :: rest) a (W.alloc (.cells #[] 3)) := by
  subst hN hm
  obtain ⟨i0, hi, hz0, hz1, hz2⟩ := info_parts infoInt
  have hcs : ∀ j u, (flatI D)[j]? = some u → (W.alloc (.cells #[] 3)).cell? (ad.add j) = some u := fun j u hj => by
    obtain ⟨_, _, e, _, _, _, hc⟩ := RSees.below hD (below_alloc (w := W) (.cells #[] 3))
    obtain ⟨rfl, _, _⟩ := Value.slice.inj e
    obtain ⟨c', h5, h6⟩ := hc j u hj
    cases h5; exact h6
  refine wpList_append_own _ hgd s x 31 ho W.heap.size 3 i0 _ 1 8 Tryz.underlying31 hi hz0 hz1 hz2 rfl (by decide) _ 0 [] hs (World.ownsRow_made W #[] 0 (Nat.le_refl _) (Nat.zero_le _) rfl) ad D.length c (flatI D) hx (by simp [flatI]) hcs (flatI_one D) (by unfold maxLen; omega) (by omega) (by simp) fun v' w' h1 h2 _ => h v' w' (by unfold OwnsI; simpa using h1) ?_
  exact ⟨h2.os, h2.tape, h2.output, Nat.le_trans (by simp) h2.size, fun j hj => (h2.block j (by simp; omega) (by simp [Value.ownBlock]; omega)).trans (by rw [heap_alloc_old (h := hj)])⟩

theorem below_made {W w6 : World} {T : TypeId} (hg : (W.alloc (.cells #[] T)).grownBy w6 (Value.slice (some ⟨W.heap.size, 0, none⟩) 0 0).ownBlock) : Below W.heap.size W w6 :=
  ⟨hg.os, hg.tape, hg.output, Nat.le_trans (by simp) hg.size, fun j hj => (hg.block j (by simp; omega) (by simp [Value.ownBlock]; omega)).trans (heap_alloc_old _ _ hj)⟩
/-- A result that lies in a cell, and a number beside it. -/
theorem results_tp2 {fn : Func} {p q : Tmp} (h : fn.results = #[.cell p TPo, .tmp q]) (tmps : Array Value) (w : World) (B : Nat) (x y u : Value) (hB : w.heap[B]? = some (.cells #[x, y] TPo (0, 0)))
    (hp : tmps.getD p undef = .pointer (some ⟨B, 0, none⟩)) (hq : tmps.getD q undef = u) : (results fn tmps).run Tryz.prog w = .ok (.tuple #[.agg #[x, y], u]) w := by
  have c0 : w.cell? ⟨B, 0, none⟩ = some x := cell_of_row _ _ 0 _ _ _ hB
  have c1 : w.cell? ⟨B, 1, none⟩ = some y := cell_of_row _ _ 1 _ _ _ hB
  have hp' : tmps[p]?.getD undef = .pointer (some ⟨B, 0, none⟩) := by simpa using hp
  have hq' : tmps[q]?.getD undef = u := by simpa using hq
  clear hB hp hq
  simp [results, h, hp', hq', asAddr, go_sem, c0, c1]
theorem tp_set {w : World} {B : Nat} {a b : Value} (h : w.heap[B]? = some (.cells #[a, b] TPo (0, 0))) (x y : Value) :
    ((w.setCell ⟨B, 0, none⟩ x).setCell ⟨B, 1, none⟩ y).heap[B]? = some (.cells #[x, y] TPo (0, 0)) :=
  heap_setCell_same _ B 1 _ _ _ (heap_setCell_same _ B 0 _ _ _ h)
theorem set2_other {w : World} {B i j k : Nat} {x y : Value} (h : k ≠ B) : ((w.setCell ⟨B, i, none⟩ x).setCell ⟨B, j, none⟩ y).heap[k]? = w.heap[k]? :=
  (heap_setCell_other _ _ _ _ h).trans (heap_setCell_other _ _ _ _ h)
theorem below_set1 {w W : World} {B i n : Nat} {x : Value} (h : Below n w W) (hB : n ≤ B) : Below n w (W.setCell ⟨B, i, none⟩ x) :=
  ⟨h.os, h.tape, h.output, by simpa using h.size, fun k hk => (heap_setCell_other _ _ _ _ (show k ≠ B by omega)).trans (h.block k hk)⟩
theorem below_set2 {w W : World} {B i j n : Nat} {x y : Value} (h : Below n w W) (hB : n ≤ B) : Below n w ((W.setCell ⟨B, i, none⟩ x).setCell ⟨B, j, none⟩ y) :=
  ⟨h.os, h.tape, h.output, by simpa using h.size, fun k hk => (set2_other (by omega)).trans (h.block k hk)⟩
/-- The two blocks that Put and Mark lay first. -/
structure By (w W : World) (u v : Value) : Prop where
  b : W.heap[w.heap.size]? = some (.cells #[u, v] TPo (0, 0))
  z : W.heap[w.heap.size + 1]? = some (.cells #[.slice none 0 0, .slice none 0 0] TPo (0, 0))
  below : Below w.heap.size w W
theorem by_new (w : World) (u v : Value) : By w ((w.alloc (.cells #[u, v] TPo)).alloc (.cells #[.slice none 0 0, .slice none 0 0] TPo)) u v :=
  ⟨(heap_alloc_old _ _ (by simp)).trans (heap_alloc_new _ _), by have := heap_alloc_new (w.alloc (.cells #[u, v] TPo)) (.cells #[.slice none 0 0, .slice none 0 0] TPo); simpa using this, ((Below.refl _ _).alloc (Nat.le_refl _) _).alloc (by simp) _⟩
section
variable {w W W' : World} {u v : Value}
theorem By.lt (h : By w W u v) : w.heap.size + 1 < W.heap.size := (Array.getElem?_eq_some_iff.1 h.z).1
theorem By.next (h : By w W u v) (hb : Below W.heap.size W W') : By w W' u v := ⟨(hb.block _ (by have := h.lt; omega)).trans h.b, (hb.block _ h.lt).trans h.z, h.below.trans (hb.mono (by have := h.lt; omega))⟩
theorem By.next3 {n : Nat} (h : By w W u v) (hb : Below n W W') (hn : w.heap.size + 1 < n) : By w W' u v := ⟨(hb.block _ (by omega)).trans h.b, (hb.block _ hn).trans h.z, h.below.trans (hb.mono (by omega))⟩
theorem By.c0 (h : By w W u v) : W.cell? ⟨w.heap.size, 0, none⟩ = some u := cell_of_row _ _ 0 _ _ _ h.b
theorem By.c1 (h : By w W u v) : W.cell? ⟨w.heap.size, 1, none⟩ = some v := cell_of_row _ _ 1 _ _ _ h.b
theorem By.d0 (h : By w W u v) : W.cell? ⟨w.heap.size + 1, 0, none⟩ = some (.slice none 0 0) := cell_of_row _ _ 0 _ _ _ h.z
theorem By.d1 (h : By w W u v) : W.cell? ⟨w.heap.size + 1, 1, none⟩ = some (.slice none 0 0) := cell_of_row _ _ 1 _ _ _ h.z
theorem By.fc (h : By w W u v) (i : Nat) : W.frozen? ⟨w.heap.size, i, none⟩ = false := frozen_of_row _ _ i _ _ h.b
theorem By.fz (h : By w W u v) (i : Nat) : W.frozen? ⟨w.heap.size + 1, i, none⟩ = false := frozen_of_row _ _ i _ _ h.z
end

set_option maxRecDepth 100000 in
set_option maxHeartbeats 2000000 in
theorem rput_arg {w : World} {a b : Option Addr} {n m c d : Nat} (fd g : Int) (hbad : g < 0 ∨ 4095 < g) :
    Calls Tryz.prog 48 #[.agg #[.slice a n c, .slice b m d], .int .i64 fd, .int .i64 g] w fun x w' => x = .returned (.tuple #[.agg #[.slice a n c, .slice b m d], .int .i64 1]) ∧ Below w.heap.size w w' := by
  have hbl : Hid (Below w.heap.size w ((w.alloc (.cells #[.slice a n c, .slice b m d] TPo)).alloc (.cells #[.slice a n c, .slice b m d] TPo))) := Lib.hid (((Below.refl _ _).alloc (Nat.le_refl _) _).alloc (by simp) _)
  have hnw : Hid (((w.alloc (.cells #[.slice a n c, .slice b m d] TPo)).alloc (.cells #[.slice a n c, .slice b m d] TPo)).heap[w.heap.size + 1]? = some (.cells #[.slice a n c, .slice b m d] TPo (0, 0))) := Lib.hid (by
    have := heap_alloc_new (w.alloc (.cells #[.slice a n c, .slice b m d] TPo)) (.cells #[.slice a n c, .slice b m d] TPo)
    simpa using this)
  by_cases h3 : g < 0
  · go_enter Tryz.func48, Tryz.ntmps48
    go_wp2_with fail
    refine bodyPost_ret (results_tp2 rfl _ _ (w.heap.size + 1) (.slice a n c) (.slice b m d) (.int .i64 1) hnw.out rfl rfl) rfl ⟨rfl, hbl.out⟩
  · have h4 : 4095 < g := by omega
    go_enter Tryz.func48, Tryz.ntmps48
    go_wp2_with fail
    refine bodyPost_ret (results_tp2 rfl _ _ (w.heap.size + 1) (.slice a n c) (.slice b m d) (.int .i64 1) hnw.out rfl rfl) rfl ⟨rfl, hbl.out⟩

set_option maxRecDepth 100000 in
set_option maxHeartbeats 2000000 in
theorem rput_same {w : World} {u v : Value} {D : List (Int × Int)} {lo lo' : Nat} {R : List Int} (hu : WSees w lo u D) (hv : ISees w lo' v R) (hbd : D.length ≤ 1000) (fd g : Int) (h3 : 0 ≤ g) (h4 : g ≤ 4095) (hs : 0 ≤ whoD D fd ∨ hasD D g = true) :
    Calls Tryz.prog 48 #[.agg #[u, v], .int .i64 fd, .int .i64 g] w fun x w' => x = .returned (.tuple #[.agg #[u, v], .int .i64 8]) ∧ Below w.heap.size w w' := by
  have HU := Lib.hid hu
  obtain ⟨a, cap, rfl, _, hmx, _, _⟩ := hu
  obtain ⟨b, capb, rfl, _, hmxb, _, _⟩ := hv
  have e3 : (g < 0) = False := eq_false (by omega)
  have e4 : (4095 < g) = False := eq_false (by omega)
  obtain ⟨y, hy⟩ : ∃ y, whoD D fd = y := ⟨_, rfl⟩
  rw [hy] at hs
  have HY := Lib.hid hy
  clear hy
  by_cases hy0 : 0 ≤ y
  · clear hs
    go_enter Tryz.func48, Tryz.ntmps48
    go_wp2_with fail
    have HB := Lib.hid (by_new w (.slice a D.length cap) (.slice b R.length capb))
    generalize ((w.alloc (.cells #[.slice a D.length cap, .slice b R.length capb] TPo)).alloc (.cells #[.slice none 0 0, .slice none 0 0] TPo)) = W at *
    refine (rwho_is (HU.out.below HB.out.below) (by omega) fd HY.out).mono ?_
    rintro e w1 ⟨rfl, hb1⟩
    have H1 := Lib.hid (HB.out.next hb1)
    clear hb1
    have z0 := H1.out.c0
    have z1 := H1.out.c1
    have y0 := H1.out.d0
    have y1 := H1.out.d1
    have fy := H1.out.fz
    have W3 := 0
    clear W3
    go_wp2_with fail
    refine bodyPost_ret (results_tp2 rfl _ _ (w.heap.size + 1) (.slice a D.length cap) (.slice b R.length capb) (.int .i64 8) (tp_set H1.out.z _ _) rfl rfl) rfl ⟨rfl, below_set2 H1.out.below (by omega)⟩
  · have HG : Hid (hasD D g = true) := Lib.hid (by rcases hs with h | h; exact absurd h hy0; exact h)
    clear hs
    go_enter Tryz.func48, Tryz.ntmps48
    go_wp2_with fail
    have HB := Lib.hid (by_new w (.slice a D.length cap) (.slice b R.length capb))
    generalize ((w.alloc (.cells #[.slice a D.length cap, .slice b R.length capb] TPo)).alloc (.cells #[.slice none 0 0, .slice none 0 0] TPo)) = W at *
    refine (rwho_is (HU.out.below HB.out.below) (by omega) fd HY.out).mono ?_
    rintro e w1 ⟨rfl, hb1⟩
    have H1 := Lib.hid (HB.out.next hb1)
    clear hb1
    have z0 := H1.out.c0
    have z1 := H1.out.c1
    have y0 := H1.out.d0
    have y1 := H1.out.d1
    have fy := H1.out.fz
    have W3 := 0
    clear W3
    go_wp2_with fail
    refine (rhas_is (HU.out.below H1.out.below) (by omega) g HG.out).mono ?_
    rintro e w2 ⟨rfl, hb2⟩
    have H2 := Lib.hid (H1.out.next hb2)
    clear hb2 z0 z1 y0 y1 fy
    have z0 := H2.out.c0
    have z1 := H2.out.c1
    have y0 := H2.out.d0
    have y1 := H2.out.d1
    have fy := H2.out.fz
    go_wp2_with fail
    refine bodyPost_ret (results_tp2 rfl _ _ (w.heap.size + 1) (.slice a D.length cap) (.slice b R.length capb) (.int .i64 8) (tp_set H2.out.z _ _) rfl rfl) rfl ⟨rfl, below_set2 H2.out.below (by omega)⟩

set_option maxRecDepth 100000 in
set_option maxHeartbeats 2000000 in
theorem rput_full {w : World} {u v : Value} {D : List (Int × Int)} {lo lo' : Nat} {R : List Int} (hu : WSees w lo u D) (hv : ISees w lo' v R) (hbd : D.length ≤ 1000) (hbr : R.length ≤ 1000) (fd g : Int) (h3 : 0 ≤ g) (h4 : g ≤ 4095) (hs : whoD D fd < 0) (hg : hasD D g = false) (hf : fullD D R fd = true) :
    Calls Tryz.prog 48 #[.agg #[u, v], .int .i64 fd, .int .i64 g] w fun x w' => x = .returned (.tuple #[.agg #[u, v], .int .i64 2]) ∧ Below w.heap.size w w' := by
  have HU := Lib.hid hu
  have HV := Lib.hid hv
  obtain ⟨a, cap, rfl, _, hmx, _, _⟩ := hu
  obtain ⟨b, capb, rfl, _, hmxb, _, _⟩ := hv
  have e3 : (g < 0) = False := eq_false (by omega)
  have e4 : (4095 < g) = False := eq_false (by omega)
  obtain ⟨y, hy⟩ : ∃ y, whoD D fd = y := ⟨_, rfl⟩
  rw [hy] at hs
  have HY := Lib.hid hy
  have HG := Lib.hid hg
  have HF := Lib.hid hf
  have hy0 : ¬ 0 ≤ y := by omega
  clear hy hg hf
  · skip
    go_enter Tryz.func48, Tryz.ntmps48
    go_wp2_with fail
    have HB := Lib.hid (by_new w (.slice a D.length cap) (.slice b R.length capb))
    generalize ((w.alloc (.cells #[.slice a D.length cap, .slice b R.length capb] TPo)).alloc (.cells #[.slice none 0 0, .slice none 0 0] TPo)) = W at *
    refine (rwho_is (HU.out.below HB.out.below) (by omega) fd HY.out).mono ?_
    rintro e w1 ⟨rfl, hb1⟩
    have H1 := Lib.hid (HB.out.next hb1)
    clear hb1
    have z0 := H1.out.c0
    have z1 := H1.out.c1
    have y0 := H1.out.d0
    have y1 := H1.out.d1
    have fy := H1.out.fz
    have W3 := 0
    clear W3
    go_wp2_with fail
    refine (rhas_is (HU.out.below H1.out.below) (by omega) g HG.out).mono ?_
    rintro e w2 ⟨rfl, hb2⟩
    have H2 := Lib.hid (H1.out.next hb2)
    clear hb2 z0 z1 y0 y1 fy
    have z0 := H2.out.c0
    have z1 := H2.out.c1
    go_wp2_with fail
    refine (rfull_is (HU.out.below H2.out.below) (HV.out.below H2.out.below) hbd hbr fd HF.out).mono ?_
    rintro e w3 ⟨rfl, hb3⟩
    have H3 := Lib.hid (H2.out.next hb3)
    clear hb3 z0 z1
    have z0 := H3.out.c0
    have z1 := H3.out.c1
    have y0 := H3.out.d0
    have y1 := H3.out.d1
    have fy := H3.out.fz
    go_wp2_with fail
    refine bodyPost_ret (results_tp2 rfl _ _ (w.heap.size + 1) (.slice a D.length cap) (.slice b R.length capb) (.int .i64 2) (tp_set H3.out.z _ _) rfl rfl) rfl ⟨rfl, below_set2 H3.out.below (by omega)⟩

set_option maxRecDepth 100000 in
set_option maxHeartbeats 2000000 in
theorem rput_some {w : World} {v : Value} {D : List (Int × Int)} {ad : Addr} {lo lo' cap : Nat} {R : List Int} (hu : WSees w lo (.slice (some ad) D.length cap) D) (hv : ISees w lo' v R) (hbd : D.length ≤ 1000) (hbr : R.length ≤ 1000) (fd g : Int) (h3 : 0 ≤ g) (h4 : g ≤ 4095) (hs : whoD D fd < 0) (hg : hasD D g = false) (hf : fullD D R fd = false) :
    Calls Tryz.prog 48 #[.agg #[.slice (some ad) D.length cap, v], .int .i64 fd, .int .i64 g] w fun x w' => ∃ v', x = .returned (.tuple #[.agg #[v', v], .int .i64 0]) ∧ OwnsW w' w.heap.size v' (D ++ [(fd, g)]) ∧ Below w.heap.size w w' := by
  have HU := Lib.hid hu
  have HV := Lib.hid hv
  clear hu
  obtain ⟨b, capb, rfl, _, hmxb, _, _⟩ := hv
  have e3 : (g < 0) = False := eq_false (by omega)
  have e4 : (4095 < g) = False := eq_false (by omega)
  obtain ⟨y, hy⟩ : ∃ y, whoD D fd = y := ⟨_, rfl⟩
  rw [hy] at hs
  have HY := Lib.hid hy
  have HG := Lib.hid hg
  have HF := Lib.hid hf
  have hy0 : ¬ 0 ≤ y := by omega
  clear hy hg hf
  · skip
    go_enter Tryz.func48, Tryz.ntmps48
    go_wp2_with fail
    have HB := Lib.hid (by_new w (.slice (some ad) D.length cap) (.slice b R.length capb))
    generalize ((w.alloc (.cells #[.slice (some ad) D.length cap, .slice b R.length capb] TPo)).alloc (.cells #[.slice none 0 0, .slice none 0 0] TPo)) = W at *
    refine (rwho_is (HU.out.below HB.out.below) (by omega) fd HY.out).mono ?_
    rintro e w1 ⟨rfl, hb1⟩
    have H1 := Lib.hid (HB.out.next hb1)
    clear hb1
    have z0 := H1.out.c0
    have z1 := H1.out.c1
    have y0 := H1.out.d0
    have y1 := H1.out.d1
    have fy := H1.out.fz
    have W3 := 0
    clear W3
    go_wp2_with fail
    refine (rhas_is (HU.out.below H1.out.below) (by omega) g HG.out).mono ?_
    rintro e w2 ⟨rfl, hb2⟩
    have H2 := Lib.hid (H1.out.next hb2)
    clear hb2 z0 z1 y0 y1 fy
    have z0 := H2.out.c0
    have z1 := H2.out.c1
    go_wp2_with fail
    refine (rfull_is (HU.out.below H2.out.below) (HV.out.below H2.out.below) hbd hbr fd HF.out).mono ?_
    rintro e w3 ⟨rfl, hb3⟩
    have H3 := Lib.hid (H2.out.next hb3)
    clear hb3 z0 z1
    have z0 := H3.out.c0
    have z1 := H3.out.c1
    have y0 := H3.out.d0
    have y1 := H3.out.d1
    have fy := H3.out.fz
    have fc := H3.out.fc
    have hne : w.heap.size ≠ w.heap.size + 1 := by omega
    have za := (H3.out.next (below_alloc (w := w3) (.cells #[] TW))).c0
    clear HG HF HY H1 H2 HB
    go_wp2_with (refine wpList_append_rowW rfl (.tmp 29) (.tmp 31) rfl w3 lo D.length cap ad D w3.heap.size rfl rfl rfl (HU.out.below H3.out.below) rfl (by omega) ?_)
    intro v5 w5 ho5 hb5
    have H5 := Lib.hid (And.intro ho5 (And.intro (H3.out.next hb5) hb5.size))
    obtain ⟨oa, oc, hov, _⟩ := rsees_own ho5 (Nat.le_refl _)
    subst hov
    clear ho5 hb5 z0 z1 y0 y1 fy fc za
    go_wp2_with (refine wpList_append_oneW rfl (.tmp 32) (.tmp 36) rfl w5 w3.heap.size (.slice oa D.length oc) D (fd, g) w5.heap.size rfl rfl H5.out.1 rfl (by omega) H5.out.2.2 ?_)
    intro v6 w6 ho6 hg6
    have H6 := Lib.hid (And.intro ho6 (And.intro (H5.out.2.1.next3 (below_ownR (Below.refl w3.heap.size w5) H5.out.1 hg6 ⟨H5.out.2.2, Nat.le_refl _⟩) H3.out.lt) (Nat.le_trans H5.out.2.2 hg6.size)))
    obtain ⟨oa6, oc6, hov, _⟩ := rsees_own ho6 (Nat.le_refl _)
    obtain ⟨mm, hmm⟩ : ∃ mm, (D ++ [(fd, g)]).length = mm := ⟨_, rfl⟩
    replace hov : v6 = .slice oa6 mm oc6 := hov.trans (congrArg (fun n => Value.slice oa6 n oc6) hmm)
    subst hov
    clear ho6 hg6 hmm
    have z0 := H6.out.2.1.c0
    have z1 := H6.out.2.1.c1
    have y0 := H6.out.2.1.d0
    have y1 := H6.out.2.1.d1
    have fy := H6.out.2.1.fz
    have fc := H6.out.2.1.fc
    have hZ : (w6.setCell ⟨w.heap.size, 0, none⟩ (.slice oa6 mm oc6)).heap[w.heap.size + 1]? = some (.cells #[.slice none 0 0, .slice none 0 0] TPo (0, 0)) := (heap_setCell_other _ _ _ _ (show w.heap.size + 1 ≠ w.heap.size by omega)).trans H6.out.2.1.z
    have HF2 := Lib.hid (And.intro hZ H3.out.lt)
    clear hZ
    go_wp2_with fail
    refine bodyPost_ret (results_tp2 rfl _ _ (w.heap.size + 1) (.slice oa6 mm oc6) (.slice b R.length capb) (.int .i64 0) (tp_set HF2.out.1 _ _) rfl rfl) rfl ⟨_, rfl, ?_, ?_⟩
    · refine ownsR_lower (ownsR_heap H6.out.1 (fun j hj => ?_)) (by have := HF2.out.2; omega)
      have h1 := (World.ownsRow.lt H6.out.1 j hj).1
      have h2 := HF2.out.2
      exact (set2_other (by omega)).trans (heap_setCell_other _ _ _ _ (show j ≠ w.heap.size by omega))
    · exact below_set2 (below_set1 H6.out.2.1.below (Nat.le_refl _)) (by omega)

set_option maxRecDepth 100000 in
set_option maxHeartbeats 2000000 in
theorem rput_nil {w : World} {v : Value} {lo lo' cap : Nat} {R : List Int} (hu : WSees w lo (.slice none 0 cap) ([] : List (Int × Int))) (hv : ISees w lo' v R) (hbr : R.length ≤ 1000) (fd g : Int) (h3 : 0 ≤ g) (h4 : g ≤ 4095) (hs : whoD ([] : List (Int × Int)) fd < 0) (hg : hasD ([] : List (Int × Int)) g = false) (hf : fullD ([] : List (Int × Int)) R fd = false) :
    Calls Tryz.prog 48 #[.agg #[.slice none 0 cap, v], .int .i64 fd, .int .i64 g] w fun x w' => ∃ v', x = .returned (.tuple #[.agg #[v', v], .int .i64 0]) ∧ OwnsW w' w.heap.size v' (([] : List (Int × Int)) ++ [(fd, g)]) ∧ Below w.heap.size w w' := by
  have HU := Lib.hid hu
  have HV := Lib.hid hv
  clear hu
  obtain ⟨b, capb, rfl, _, hmxb, _, _⟩ := hv
  have e3 : (g < 0) = False := eq_false (by omega)
  have e4 : (4095 < g) = False := eq_false (by omega)
  obtain ⟨y, hy⟩ : ∃ y, whoD ([] : List (Int × Int)) fd = y := ⟨_, rfl⟩
  rw [hy] at hs
  have HY := Lib.hid hy
  have HG := Lib.hid hg
  have HF := Lib.hid hf
  have hy0 : ¬ 0 ≤ y := by omega
  clear hy hg hf
  · skip
    go_enter Tryz.func48, Tryz.ntmps48
    go_wp2_with fail
    have HB := Lib.hid (by_new w (.slice none 0 cap) (.slice b R.length capb))
    generalize ((w.alloc (.cells #[.slice none 0 cap, .slice b R.length capb] TPo)).alloc (.cells #[.slice none 0 0, .slice none 0 0] TPo)) = W at *
    refine (rwho_is (HU.out.below HB.out.below) (by simp) fd HY.out).mono ?_
    rintro e w1 ⟨rfl, hb1⟩
    have H1 := Lib.hid (HB.out.next hb1)
    clear hb1
    have z0 := H1.out.c0
    have z1 := H1.out.c1
    have y0 := H1.out.d0
    have y1 := H1.out.d1
    have fy := H1.out.fz
    have W3 := 0
    clear W3
    go_wp2_with fail
    refine (rhas_is (HU.out.below H1.out.below) (by simp) g HG.out).mono ?_
    rintro e w2 ⟨rfl, hb2⟩
    have H2 := Lib.hid (H1.out.next hb2)
    clear hb2 z0 z1 y0 y1 fy
    have z0 := H2.out.c0
    have z1 := H2.out.c1
    go_wp2_with fail
    refine (rfull_is (HU.out.below H2.out.below) (HV.out.below H2.out.below) (by simp) hbr fd HF.out).mono ?_
    rintro e w3 ⟨rfl, hb3⟩
    have H3 := Lib.hid (H2.out.next hb3)
    clear hb3 z0 z1
    have z0 := H3.out.c0
    have z1 := H3.out.c1
    have y0 := H3.out.d0
    have y1 := H3.out.d1
    have fy := H3.out.fz
    have fc := H3.out.fc
    have hne : w.heap.size ≠ w.heap.size + 1 := by omega
    have za := (H3.out.next (below_alloc (w := w3) (.cells #[] TW))).c0
    clear HG HF HY H1 H2 HB
    have HO := Lib.hid (show OwnsW w3 w3.heap.size (.slice none 0 0) [] from World.ownsRow_nil _ _ _ _)
    go_wp2_with (refine wpList_append_oneW rfl (.tmp 32) (.tmp 36) rfl (w3.alloc (.cells #[] TW)) w3.heap.size (.slice (some ⟨w3.heap.size, 0, none⟩) 0 0) [] (fd, g) (w3.heap.size + 1) (by simp) rfl (World.ownsRow_made w3 #[] 0 (Nat.le_refl _) (Nat.zero_le _) rfl) rfl (by simp) (by simp) ?_)
    intro v6 w6 ho6 hg6
    have H6 := Lib.hid (And.intro ho6 (And.intro (H3.out.next (below_made hg6)) (Nat.le_trans (show w3.heap.size ≤ (w3.alloc (.cells #[] TW)).heap.size by simp) hg6.size)))
    obtain ⟨oa6, oc6, hov, _⟩ := rsees_own ho6 (Nat.le_refl _)
    obtain ⟨mm, hmm⟩ : ∃ mm, (([] : List (Int × Int)) ++ [(fd, g)]).length = mm := ⟨_, rfl⟩
    replace hov : v6 = .slice oa6 mm oc6 := hov.trans (congrArg (fun n => Value.slice oa6 n oc6) hmm)
    subst hov
    clear ho6 hg6 hmm
    have z0 := H6.out.2.1.c0
    have z1 := H6.out.2.1.c1
    have y0 := H6.out.2.1.d0
    have y1 := H6.out.2.1.d1
    have fy := H6.out.2.1.fz
    have fc := H6.out.2.1.fc
    have hZ : (w6.setCell ⟨w.heap.size, 0, none⟩ (.slice oa6 mm oc6)).heap[w.heap.size + 1]? = some (.cells #[.slice none 0 0, .slice none 0 0] TPo (0, 0)) := (heap_setCell_other _ _ _ _ (show w.heap.size + 1 ≠ w.heap.size by omega)).trans H6.out.2.1.z
    have HF2 := Lib.hid (And.intro hZ H3.out.lt)
    clear hZ
    go_wp2_with fail
    refine bodyPost_ret (results_tp2 rfl _ _ (w.heap.size + 1) (.slice oa6 mm oc6) (.slice b R.length capb) (.int .i64 0) (tp_set HF2.out.1 _ _) rfl rfl) rfl ⟨_, rfl, ?_, ?_⟩
    · refine ownsR_lower (ownsR_heap H6.out.1 (fun j hj => ?_)) (by have := HF2.out.2; omega)
      have h1 := (World.ownsRow.lt H6.out.1 j hj).1
      have h2 := HF2.out.2
      exact (set2_other (by omega)).trans (heap_setCell_other _ _ _ _ (show j ≠ w.heap.size by omega))
    · exact below_set2 (below_set1 H6.out.2.1.below (Nat.le_refl _)) (by omega)

set_option maxRecDepth 100000 in
set_option maxHeartbeats 2000000 in
theorem rmark_full {w : World} {u v : Value} {D : List (Int × Int)} {lo lo' : Nat} {R : List Int} (hu : WSees w lo u D) (hv : ISees w lo' v R) (hbd : D.length ≤ 1000) (hbr : R.length ≤ 1000) (fd : Int) (hf : fullD D R fd = true) :
    Calls Tryz.prog 51 #[.agg #[u, v], .int .i64 fd] w fun x w' => x = .returned (.tuple #[.agg #[u, v], .int .i64 2]) ∧ Below w.heap.size w w' := by
  have HU := Lib.hid hu
  have HV := Lib.hid hv
  obtain ⟨a, cap, rfl, _, hmx, _, _⟩ := hu
  obtain ⟨b, capb, rfl, _, hmxb, _, _⟩ := hv
  have HF := Lib.hid hf
  clear hf
  · skip
    go_enter Tryz.func51, Tryz.ntmps51
    go_wp2_with fail
    have HB := Lib.hid (by_new w (.slice a D.length cap) (.slice b R.length capb))
    generalize ((w.alloc (.cells #[.slice a D.length cap, .slice b R.length capb] TPo)).alloc (.cells #[.slice none 0 0, .slice none 0 0] TPo)) = W at *
    refine (rfull_is (HU.out.below HB.out.below) (HV.out.below HB.out.below) hbd hbr fd HF.out).mono ?_
    rintro e w1 ⟨rfl, hb1⟩
    have H1 := Lib.hid (HB.out.next hb1)
    clear hb1
    have z0 := H1.out.c0
    have z1 := H1.out.c1
    have y0 := H1.out.d0
    have y1 := H1.out.d1
    have fy := H1.out.fz
    go_wp2_with fail
    refine bodyPost_ret (results_tp2 rfl _ _ (w.heap.size + 1) (.slice a D.length cap) (.slice b R.length capb) (.int .i64 2) (tp_set H1.out.z _ _) rfl rfl) rfl ⟨rfl, below_set2 H1.out.below (by omega)⟩

set_option maxRecDepth 100000 in
set_option maxHeartbeats 2000000 in
theorem rmark_is {w : World} {u v : Value} {D : List (Int × Int)} {lo lo' : Nat} {R : List Int} (hu : WSees w lo u D) (hv : ISees w lo' v R) (hbd : D.length ≤ 1000) (hbr : R.length ≤ 1000) (fd : Int) (hf : fullD D R fd = false) (hi : decide (fd ∈ R) = true) :
    Calls Tryz.prog 51 #[.agg #[u, v], .int .i64 fd] w fun x w' => x = .returned (.tuple #[.agg #[u, v], .int .i64 0]) ∧ Below w.heap.size w w' := by
  have HU := Lib.hid hu
  have HV := Lib.hid hv
  obtain ⟨a, cap, rfl, _, hmx, _, _⟩ := hu
  obtain ⟨b, capb, rfl, _, hmxb, _, _⟩ := hv
  have HF := Lib.hid hf
  have HI := Lib.hid hi
  clear hf hi
  · skip
    go_enter Tryz.func51, Tryz.ntmps51
    go_wp2_with fail
    have HB := Lib.hid (by_new w (.slice a D.length cap) (.slice b R.length capb))
    generalize ((w.alloc (.cells #[.slice a D.length cap, .slice b R.length capb] TPo)).alloc (.cells #[.slice none 0 0, .slice none 0 0] TPo)) = W at *
    refine (rfull_is (HU.out.below HB.out.below) (HV.out.below HB.out.below) hbd hbr fd HF.out).mono ?_
    rintro e w1 ⟨rfl, hb1⟩
    have H1 := Lib.hid (HB.out.next hb1)
    clear hb1
    have z0 := H1.out.c0
    have z1 := H1.out.c1
    have y0 := H1.out.d0
    have y1 := H1.out.d1
    have fy := H1.out.fz
    go_wp2_with fail
    refine (ris_is (HV.out.below H1.out.below) (by omega) fd HI.out).mono ?_
    rintro e w3 ⟨rfl, hb3⟩
    have H3 := Lib.hid (H1.out.next hb3)
    clear hb3 z0 z1 y0 y1 fy
    have z0 := H3.out.c0
    have z1 := H3.out.c1
    have y0 := H3.out.d0
    have y1 := H3.out.d1
    have fy := H3.out.fz
    go_wp2_with fail
    refine bodyPost_ret (results_tp2 rfl _ _ (w.heap.size + 1) (.slice a D.length cap) (.slice b R.length capb) (.int .i64 0) (tp_set H3.out.z _ _) rfl rfl) rfl ⟨rfl, below_set2 H3.out.below (by omega)⟩

set_option maxRecDepth 100000 in
set_option maxHeartbeats 2000000 in
theorem rmark_some {w : World} {u : Value} {D : List (Int × Int)} {lo lo' capb : Nat} {R : List Int} {ad : Addr} (hu : WSees w lo u D) (hv : ISees w lo' (.slice (some ad) R.length capb) R) (hbd : D.length ≤ 1000) (hbr : R.length ≤ 1000) (fd : Int) (hf : fullD D R fd = false) (hi : decide (fd ∈ R) = false) :
    Calls Tryz.prog 51 #[.agg #[u, .slice (some ad) R.length capb], .int .i64 fd] w fun x w' => ∃ v', x = .returned (.tuple #[.agg #[u, v'], .int .i64 0]) ∧ OwnsI w' w.heap.size v' (R ++ [fd]) ∧ Below w.heap.size w w' := by
  have HU := Lib.hid hu
  have HV := Lib.hid hv
  obtain ⟨a, cap, rfl, _, hmx, _, _⟩ := hu
  clear hv
  have HF := Lib.hid hf
  have HI := Lib.hid hi
  clear hf hi
  · skip
    go_enter Tryz.func51, Tryz.ntmps51
    go_wp2_with fail
    have HB := Lib.hid (by_new w (.slice a D.length cap) (.slice (some ad) R.length capb))
    generalize ((w.alloc (.cells #[.slice a D.length cap, .slice (some ad) R.length capb] TPo)).alloc (.cells #[.slice none 0 0, .slice none 0 0] TPo)) = W at *
    refine (rfull_is (HU.out.below HB.out.below) (HV.out.below HB.out.below) hbd hbr fd HF.out).mono ?_
    rintro e w1 ⟨rfl, hb1⟩
    have H1 := Lib.hid (HB.out.next hb1)
    clear hb1
    have z0 := H1.out.c0
    have z1 := H1.out.c1
    have y0 := H1.out.d0
    have y1 := H1.out.d1
    have fy := H1.out.fz
    go_wp2_with fail
    refine (ris_is (HV.out.below H1.out.below) (by omega) fd HI.out).mono ?_
    rintro e w3 ⟨rfl, hb3⟩
    have H3 := Lib.hid (H1.out.next hb3)
    clear hb3 z0 z1 y0 y1 fy
    have z0 := H3.out.c0
    have z1 := H3.out.c1
    have y0 := H3.out.d0
    have y1 := H3.out.d1
    have fy := H3.out.fz
    have fc := H3.out.fc
    have hne : w.heap.size ≠ w.heap.size + 1 := by omega
    have za := (H3.out.next (below_alloc (w := w3) (.cells #[] 3))).c1
    clear HF HI H1 HB
    go_wp2_with (refine wpList_append_rowI rfl (.tmp 14) (.tmp 16) rfl w3 lo' R.length capb ad R w3.heap.size rfl rfl rfl (HV.out.below H3.out.below) rfl (by omega) ?_)
    intro v5 w5 ho5 hb5
    have H5 := Lib.hid (And.intro ho5 (And.intro (H3.out.next hb5) hb5.size))
    obtain ⟨oa, oc, hov, _⟩ := rsees_own ho5 (Nat.le_refl _)
    subst hov
    clear ho5 hb5 z0 z1 y0 y1 fy fc za
    go_wp2_with (refine wpList_append_oneI rfl (.tmp 17) (.tmp 19) rfl w5 w3.heap.size (.slice oa R.length oc) R fd w5.heap.size rfl rfl H5.out.1 rfl (by omega) H5.out.2.2 ?_)
    intro v6 w6 ho6 hg6
    have H6 := Lib.hid (And.intro ho6 (And.intro (H5.out.2.1.next3 (below_ownR (Below.refl w3.heap.size w5) H5.out.1 hg6 ⟨H5.out.2.2, Nat.le_refl _⟩) H3.out.lt) (Nat.le_trans H5.out.2.2 hg6.size)))
    obtain ⟨oa6, oc6, hov, _⟩ := rsees_own ho6 (Nat.le_refl _)
    obtain ⟨mm, hmm⟩ : ∃ mm, (R ++ [fd]).length = mm := ⟨_, rfl⟩
    replace hov : v6 = .slice oa6 mm oc6 := hov.trans (congrArg (fun n => Value.slice oa6 n oc6) hmm)
    subst hov
    clear ho6 hg6 hmm
    have z0 := H6.out.2.1.c0
    have z1 := H6.out.2.1.c1
    have y0 := H6.out.2.1.d0
    have y1 := H6.out.2.1.d1
    have fy := H6.out.2.1.fz
    have fc := H6.out.2.1.fc
    have hZ : (w6.setCell ⟨w.heap.size, 1, none⟩ (.slice oa6 mm oc6)).heap[w.heap.size + 1]? = some (.cells #[.slice none 0 0, .slice none 0 0] TPo (0, 0)) := (heap_setCell_other _ _ _ _ (show w.heap.size + 1 ≠ w.heap.size by omega)).trans H6.out.2.1.z
    have HF2 := Lib.hid (And.intro hZ H3.out.lt)
    clear hZ
    go_wp2_with fail
    refine bodyPost_ret (results_tp2 rfl _ _ (w.heap.size + 1) (.slice a D.length cap) (.slice oa6 mm oc6) (.int .i64 0) (tp_set HF2.out.1 _ _) rfl rfl) rfl ⟨_, rfl, ?_, ?_⟩
    · refine ownsR_lower (ownsR_heap H6.out.1 (fun j hj => ?_)) (by have := HF2.out.2; omega)
      have h1 := (World.ownsRow.lt H6.out.1 j hj).1
      have h2 := HF2.out.2
      exact (set2_other (by omega)).trans (heap_setCell_other _ _ _ _ (show j ≠ w.heap.size by omega))
    · exact below_set2 (below_set1 H6.out.2.1.below (Nat.le_refl _)) (by omega)

set_option maxRecDepth 100000 in
set_option maxHeartbeats 2000000 in
theorem rmark_nil {w : World} {u : Value} {D : List (Int × Int)} {lo lo' capb : Nat} (hu : WSees w lo u D) (hv : ISees w lo' (.slice none 0 capb) ([] : List Int)) (hbd : D.length ≤ 1000) (fd : Int) (hf : fullD D ([] : List Int) fd = false) (hi : decide (fd ∈ ([] : List Int)) = false) :
    Calls Tryz.prog 51 #[.agg #[u, .slice none 0 capb], .int .i64 fd] w fun x w' => ∃ v', x = .returned (.tuple #[.agg #[u, v'], .int .i64 0]) ∧ OwnsI w' w.heap.size v' (([] : List Int) ++ [fd]) ∧ Below w.heap.size w w' := by
  have HU := Lib.hid hu
  have HV := Lib.hid hv
  obtain ⟨a, cap, rfl, _, hmx, _, _⟩ := hu
  clear hv
  have HF := Lib.hid hf
  have HI := Lib.hid hi
  clear hf hi
  · skip
    go_enter Tryz.func51, Tryz.ntmps51
    go_wp2_with fail
    have HB := Lib.hid (by_new w (.slice a D.length cap) (.slice none 0 capb))
    generalize ((w.alloc (.cells #[.slice a D.length cap, .slice none 0 capb] TPo)).alloc (.cells #[.slice none 0 0, .slice none 0 0] TPo)) = W at *
    refine (rfull_is (HU.out.below HB.out.below) (HV.out.below HB.out.below) hbd (by simp) fd HF.out).mono ?_
    rintro e w1 ⟨rfl, hb1⟩
    have H1 := Lib.hid (HB.out.next hb1)
    clear hb1
    have z0 := H1.out.c0
    have z1 := H1.out.c1
    have y0 := H1.out.d0
    have y1 := H1.out.d1
    have fy := H1.out.fz
    go_wp2_with fail
    refine (ris_is (HV.out.below H1.out.below) (by simp) fd HI.out).mono ?_
    rintro e w3 ⟨rfl, hb3⟩
    have H3 := Lib.hid (H1.out.next hb3)
    clear hb3 z0 z1 y0 y1 fy
    have z0 := H3.out.c0
    have z1 := H3.out.c1
    have y0 := H3.out.d0
    have y1 := H3.out.d1
    have fy := H3.out.fz
    have fc := H3.out.fc
    have hne : w.heap.size ≠ w.heap.size + 1 := by omega
    have za := (H3.out.next (below_alloc (w := w3) (.cells #[] 3))).c1
    clear HF HI H1 HB
    go_wp2_with (refine wpList_append_oneI rfl (.tmp 17) (.tmp 19) rfl (w3.alloc (.cells #[] 3)) w3.heap.size (.slice (some ⟨w3.heap.size, 0, none⟩) 0 0) [] fd (w3.heap.size + 1) (by simp) rfl (World.ownsRow_made w3 #[] 0 (Nat.le_refl _) (Nat.zero_le _) rfl) rfl (by simp) (by simp) ?_)
    intro v6 w6 ho6 hg6
    have H6 := Lib.hid (And.intro ho6 (And.intro (H3.out.next (below_made hg6)) (Nat.le_trans (show w3.heap.size ≤ (w3.alloc (.cells #[] 3)).heap.size by simp) hg6.size)))
    obtain ⟨oa6, oc6, hov, _⟩ := rsees_own ho6 (Nat.le_refl _)
    obtain ⟨mm, hmm⟩ : ∃ mm, (([] : List Int) ++ [fd]).length = mm := ⟨_, rfl⟩
    replace hov : v6 = .slice oa6 mm oc6 := hov.trans (congrArg (fun n => Value.slice oa6 n oc6) hmm)
    subst hov
    clear ho6 hg6 hmm
    have z0 := H6.out.2.1.c0
    have z1 := H6.out.2.1.c1
    have y0 := H6.out.2.1.d0
    have y1 := H6.out.2.1.d1
    have fy := H6.out.2.1.fz
    have fc := H6.out.2.1.fc
    have hZ : (w6.setCell ⟨w.heap.size, 1, none⟩ (.slice oa6 mm oc6)).heap[w.heap.size + 1]? = some (.cells #[.slice none 0 0, .slice none 0 0] TPo (0, 0)) := (heap_setCell_other _ _ _ _ (show w.heap.size + 1 ≠ w.heap.size by omega)).trans H6.out.2.1.z
    have HF2 := Lib.hid (And.intro hZ H3.out.lt)
    clear hZ
    go_wp2_with fail
    refine bodyPost_ret (results_tp2 rfl _ _ (w.heap.size + 1) (.slice a D.length cap) (.slice oa6 mm oc6) (.int .i64 0) (tp_set HF2.out.1 _ _) rfl rfl) rfl ⟨_, rfl, ?_, ?_⟩
    · refine ownsR_lower (ownsR_heap H6.out.1 (fun j hj => ?_)) (by have := HF2.out.2; omega)
      have h1 := (World.ownsRow.lt H6.out.1 j hj).1
      have h2 := HF2.out.2
      exact (set2_other (by omega)).trans (heap_setCell_other _ _ _ _ (show j ≠ w.heap.size by omega))
    · exact below_set2 (below_set1 H6.out.2.1.below (Nat.le_refl _)) (by omega)
end Go.Proofs.YtlhblhgbpaipaaaGreat.Pl
