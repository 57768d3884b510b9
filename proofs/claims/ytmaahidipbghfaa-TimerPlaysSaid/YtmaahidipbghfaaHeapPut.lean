/-
  Package heap: a heap behind an address, and Put.
-/
import Derived.Test.YtmaahidipbghfaaHeapDown
import Derived.Outline
import Derived.Deep.RegionLaw
namespace Go.Proofs.Ytmaahidipbghfaa.Hp
open Go.RowKit
set_option linter.unusedVariables false

/-- At the address lies a heap: its entries, by places, in a block of its own. -/
structure IsHp (w : World) (base b i : Nat) (v : Value) (es : List Ent) : Prop where
  cell : w.cell? ⟨b, i, none⟩ = some v
  free : w.frozen? ⟨b, i, none⟩ = false
  row : (v = .slice none 0 0 ∧ es = []) ∨ ∃ g cap, v = .slice (some ⟨g, 0, none⟩) es.length cap ∧ Row3 w g cap es ∧ g ≠ b ∧ base ≤ g

/-- What a deed at that heap may change: its cell, and the block of its own. -/
structure HFr (w w' : World) (b i : Nat) (v v' : Value) : Prop where
  os : w'.os = w.os
  tape : w'.tape = w.tape
  output : w'.output = w.output
  size : w.heap.size ≤ w'.heap.size
  block : ∀ k, k < w.heap.size → k ≠ b → v.ownBlock ≠ some k → w'.heap[k]? = w.heap[k]?
  at_ : w'.heap[b]? = (w.setCell ⟨b, i, none⟩ v').heap[b]?
  own : v'.ownBlock = v.ownBlock ∨ ∀ g, v'.ownBlock = some g → w.heap.size ≤ g

theorem setCell_congr {w w' : World} {b i : Nat} (v : Value) (h : w'.heap[b]? = w.heap[b]?) : (w'.setCell ⟨b, i, none⟩ v).heap[b]? = (w.setCell ⟨b, i, none⟩ v).heap[b]? := by
  simp only [World.setCell, Array.getElem?_modify, ↓reduceIte, h]
theorem setCell_twice {w w' : World} {b i : Nat} (u v : Value) (h : w'.heap[b]? = (w.setCell ⟨b, i, none⟩ u).heap[b]?) : (w'.setCell ⟨b, i, none⟩ v).heap[b]? = (w.setCell ⟨b, i, none⟩ v).heap[b]? := by
  simp only [World.setCell, Array.getElem?_modify, ↓reduceIte] at h ⊢
  rw [h]
  cases w.heap[b]? with
  | none => rfl
  | some o => cases o <;> simp
theorem HFr.trans {w w1 w2 : World} {b i : Nat} {v v1 v2 : Value} (h : HFr w w1 b i v v1) (k : HFr w1 w2 b i v1 v2) : HFr w w2 b i v v2 :=
  ⟨k.os.trans h.os, k.tape.trans h.tape, k.output.trans h.output, Nat.le_trans h.size k.size, fun j hj hb hv => by
    refine (k.block j (Nat.lt_of_lt_of_le hj h.size) hb (fun e => ?_)).trans (h.block j hj hb hv)
    rcases h.own with h1 | h1
    · rw [h1] at e; exact hv e
    · have := h1 j e; omega, k.at_.trans (setCell_twice _ _ h.at_), by
    rcases k.own with h1 | h1
    · rw [h1]; exact h.own
    · exact .inr fun g hg => Nat.le_trans h.size (h1 g hg)⟩
/-- Ahead of the deed new blocks came. -/
theorem HFr.pre {w w1 w2 : World} {b i : Nat} {v v' : Value} (h : w.grownBy w1 none) (hb : b < w.heap.size) (k : HFr w1 w2 b i v v') : HFr w w2 b i v v' :=
  ⟨k.os.trans h.os, k.tape.trans h.tape, k.output.trans h.output, Nat.le_trans h.size k.size, fun j hj hjb hv => (k.block j (Nat.lt_of_lt_of_le hj h.size) hjb hv).trans (h.block j hj (by simp)), k.at_.trans (setCell_congr _ (h.block b hb (by simp))), by
    rcases k.own with h1 | h1
    · exact .inl h1
    · exact .inr fun g hg => Nat.le_trans h.size (h1 g hg)⟩
/-- Behind it. -/
theorem HFr.post {w w1 w2 : World} {b i : Nat} {v v' : Value} (hb : b < w.heap.size) (k : HFr w w1 b i v v') (h : w1.grownBy w2 none) : HFr w w2 b i v v' :=
  ⟨h.os.trans k.os, h.tape.trans k.tape, h.output.trans k.output, Nat.le_trans k.size h.size, fun j hj hjb hv => (h.block j (Nat.lt_of_lt_of_le hj k.size) (by simp)).trans (k.block j hj hjb hv), (h.block b (Nat.lt_of_lt_of_le hb k.size) (by simp)).trans k.at_, k.own⟩

section
variable {w : World} {base b i : Nat} {v : Value} {es : List Ent}
theorem IsHp.lt (h : IsHp w base b i v es) : b < w.heap.size := block_lt_of_cell h.cell
theorem IsHp.owns (h : IsHp w base b i v es) : w.ownsRow base 30 3 v es.length (flat es) := by
  rcases h.row with ⟨rfl, rfl⟩ | ⟨g, cap, rfl, r, hg, hb⟩
  · exact World.ownsRow_nil _ _ _ _
  · obtain ⟨⟨cur, h1, h2, h3⟩, l, m⟩ := r
    exact ⟨flat_len es, .inr ⟨g, cap, cur, rfl, hb, h1, l, m, h2, h3⟩⟩
theorem IsHp.ownlt (h : IsHp w base b i v es) : ∀ g, v.ownBlock = some g → g < w.heap.size ∧ g ≠ b ∧ base ≤ g := by
  intro g hg
  rcases h.row with ⟨rfl, rfl⟩ | ⟨g', cap, rfl, r, hgb, hb⟩
  · simp [Value.ownBlock] at hg
  · simp [Value.ownBlock] at hg; subst hg; exact ⟨r.lt, hgb, hb⟩
theorem IsHp.len (h : IsHp w base b i v es) : ∃ a cap, v = .slice a es.length cap := by
  rcases h.row with ⟨rfl, rfl⟩ | ⟨g', cap, rfl, r, hgb, hb⟩ <;> exact ⟨_, _, rfl⟩
theorem IsHp.heap {w' : World} (h : IsHp w base b i v es) (h1 : w'.heap[b]? = w.heap[b]?) (h2 : ∀ g, v.ownBlock = some g → w'.heap[g]? = w.heap[g]?) : IsHp w' base b i v es := by
  refine ⟨(World.cell?_of_block (a := ⟨b, i, none⟩) h1).trans h.cell, (World.frozen?_of_block (a := ⟨b, i, none⟩) h1).trans h.free, ?_⟩
  rcases h.row with ⟨rfl, rfl⟩ | ⟨g', cap, rfl, r, hgb, hb⟩
  · exact .inl ⟨rfl, rfl⟩
  · exact .inr ⟨g', cap, rfl, r.heap (h2 g' rfl), hgb, hb⟩
theorem IsHp.grown {w' : World} (h : IsHp w base b i v es) (hg : w.grownBy w' none) : IsHp w' base b i v es :=
  h.heap (hg.block b h.lt (by simp)) (fun g e => hg.block g (h.ownlt g e).1 (by simp))
theorem IsHp.below {w' : World} (h : IsHp w base b i v es) (hb : Below w.heap.size w w') : IsHp w' base b i v es :=
  h.heap (hb.block b h.lt) (fun g e => hb.block g (h.ownlt g e).1)
end
theorem row3_of_owns {w : World} {base g n cap : Nat} {es : List Ent} (h : w.ownsRow base 30 3 (.slice (some ⟨g, 0, none⟩) n cap) n (flat es)) (hn : es.length = n) : Row3 w g cap es ∧ base ≤ g := by
  obtain ⟨h0, h⟩ := h
  rcases h with ⟨e, _⟩ | ⟨g', cap', cur, e, hb, h1, l, m, h2, h3⟩
  · cases e
  · cases e; subst hn; exact ⟨⟨⟨cur, h1, h2, h3⟩, l, m⟩, hb⟩
theorem infoEnt : (Try.prog.info? 30).map (fun i => (i.zero, i.size, i.bytes)) = some (some (.agg #[.int .i64 0, .int .u64 0, .int .i64 0]), 3, 24) := by kernel_rfl

theorem upL_len (es : List Ent) (i : Nat) : (upL es i).length = es.length := by
  induction i using Nat.strongRecOn generalizing es with
  | _ i ih =>
    rw [upL]
    split
    · split
      · rw [ih _ (by omega), swp_len]
      · rfl
    · rfl
theorem up_r (w : World) (b i g cap : Nat) (es : List Ent) (r : Row3 w g cap es) (n : Nat) (hn : n = es.length) (hc : w.cell? ⟨b, i, none⟩ = some (.slice (some ⟨g, 0, none⟩) n cap)) (hgb : b ≠ g) (hbig : n ≤ 1000000) (j : Nat) (hj : j < n) (x : Int) (hx : x = j) :
    Calls Try.prog 30 #[.pointer (some ⟨b, i, none⟩), .int .i64 x] w fun e w' => e = .returned (.tuple #[]) ∧ Row3 w' g cap (upL es j) ∧ w.grownBy w' (some g) := by
  subst hx hn; exact up_is w b i g cap es r hc hgb hbig j hj

theorem put_done {w W w1 w3 : World} {base b i g cap n : Nat} {v : Value} {es fs : List Ent} {o : Obj} (h : IsHp w base b i v es) (hW : w.grownBy W none) (hgrow : ((W.alloc o).drew).grownBy w1 v.ownBlock) (hat : v.ownBlock = some g ∨ g = W.heap.size + 1)
    (hcA : w1.cell? ⟨b, i, none⟩ = some v) (hfA : w1.frozen? ⟨b, i, none⟩ = false) (hb1 : base ≤ g) (hr3 : Row3 w3 g cap fs) (hg3 : (w1.setCell ⟨b, i, none⟩ (.slice (some ⟨g, 0, none⟩) n cap)).grownBy w3 (some g)) (hn : fs.length = n) :
    IsHp w3 base b i (.slice (some ⟨g, 0, none⟩) n cap) fs ∧ HFr w w3 b i v (.slice (some ⟨g, 0, none⟩) n cap) := by
  have hbw := h.lt
  have hbW : b < W.heap.size := Nat.lt_of_lt_of_le hbw hW.size
  have hgb : g ≠ b := by
    rcases hat with h1 | h1
    · exact (h.ownlt g h1).2.1
    · omega
  have hbw1 : b < w1.heap.size := block_lt_of_cell hcA
  have hb3 : w3.heap[b]? = (w1.setCell ⟨b, i, none⟩ (.slice (some ⟨g, 0, none⟩) n cap)).heap[b]? := hg3.block b (by simpa using hbw1) (fun e => hgb (Option.some.inj e).symm)
  have hvb : v.ownBlock ≠ some b := fun e => (h.ownlt b e).2.1 rfl
  have h1b : w1.heap[b]? = w.heap[b]? := (hgrow.block b (by simp; omega) (fun e => hvb e.symm)).trans ((heap_alloc_old _ _ hbW).trans (hW.block b hbw (by simp)))
  refine ⟨⟨?_, ?_, .inr ⟨g, cap, by rw [hn], hr3, hgb, hb1⟩⟩, ⟨hg3.os.trans (hgrow.os.trans hW.os), hg3.tape.trans (hgrow.tape.trans hW.tape), hg3.output.trans (hgrow.output.trans hW.output), ?_, ?_, hb3.trans (setCell_congr _ h1b), ?_⟩⟩
  · exact (World.cell?_of_block (a := ⟨b, i, none⟩) hb3).trans (World.cell?_setCell_same _ _ _ hcA)
  · exact (World.frozen?_of_block (a := ⟨b, i, none⟩) hb3).trans (by rw [World.frozen?_setCell]; exact hfA)
  · have := hW.size; have := hgrow.size; have := hg3.size; simp at *; omega
  · intro k hk hkb hkv
    have hkW : k < W.heap.size := Nat.lt_of_lt_of_le hk hW.size
    have hkg : k ≠ g := by
      rintro rfl
      rcases hat with h1 | h1
      · exact hkv h1
      · omega
    have hs := hgrow.size
    simp at hs
    refine (hg3.block k (by simp; omega) (fun e => hkg (Option.some.inj e))).trans ((heap_setCell_other _ _ _ _ hkb).trans ?_)
    exact (hgrow.block k (by simp; omega) (fun e => hkv e.symm)).trans ((heap_alloc_old _ _ hkW).trans (hW.block k hk (by simp)))
  · rcases hat with h1 | h1
    · exact .inl h1.symm
    · refine .inr fun g' hg' => ?_
      simp [Value.ownBlock] at hg'
      have := hW.size
      omega
theorem put_keep {W w1 : World} {o : Obj} {v : Value} (hg : ((W.alloc o).drew).grownBy w1 v.ownBlock) {p : Addr} (hp : p.block < W.heap.size) (hne : ¬ v.ownBlock = some p.block) : w1.cell? p = W.cell? p ∧ w1.frozen? p = W.frozen? p := by
  have h : w1.heap[p.block]? = W.heap[p.block]? := (hg.block p.block (by simp; omega) (fun e => hne e.symm)).trans (heap_alloc_old _ _ hp)
  exact ⟨World.cell?_of_block h, World.frozen?_of_block h⟩

set_option maxRecDepth 100000 in
set_option maxHeartbeats 2000000 in
theorem put_is {w : World} {base b i : Nat} {v : Value} {es : List Ent} (h : IsHp w base b i v es) (hbase : base ≤ w.heap.size) (hbig : es.length < 1000000) (e : Ent) :
    Calls Try.prog 23 #[.pointer (some ⟨b, i, none⟩), e.agg] w fun x w' => ∃ v', x = .returned (.tuple #[]) ∧ IsHp w' base b i v' (upL (es ++ [e]) es.length) ∧ HFr w w' b i v v' := by
  obtain ⟨i0, hi, hz0, hz1, hz2⟩ := info_parts infoEnt
  have H := Lib.hid h
  obtain ⟨n, hn⟩ : ∃ n, n = es.length := ⟨_, rfl⟩
  rw [← hn] at hbig
  have HN := Lib.hid hn
  clear h hn
  go_enter Try.func23, Try.ntmps23
  go_wp2
  have hW1 : Below w.heap.size w (w.alloc (.cells #[.int .i64 e.w, .int .u64 e.o, .int .i64 e.g] 30)) := (Below.refl _ w).alloc (Nat.le_refl _) _
  have HB := Lib.hid hW1
  have HW : Hid (w.grownBy (w.alloc (.cells #[.int .i64 e.w, .int .u64 e.o, .int .i64 e.g] 30)) none) := Lib.hid (World.grownBy_alloc _ _ _)
  have hBk : (w.alloc (.cells #[.int .i64 e.w, .int .u64 e.o, .int .i64 e.g] 30)).heap[w.heap.size]? = some (.cells #[.int .i64 e.w, .int .u64 e.o, .int .i64 e.g] 30 (0, 0)) := heap_alloc_new _ _
  have hsz : (w.alloc (.cells #[.int .i64 e.w, .int .u64 e.o, .int .i64 e.g] 30)).heap.size = w.heap.size + 1 := by simp
  have HP : Hid (IsHp (w.alloc (.cells #[.int .i64 e.w, .int .u64 e.o, .int .i64 e.g] 30)) base b i v es) := Lib.hid (H.out.below hW1)
  clear hW1
  generalize (w.alloc (.cells #[.int .i64 e.w, .int .u64 e.o, .int .i64 e.g] 30)) = W at *
  have e0 : W.cell? ⟨w.heap.size, 0, none⟩ = some (.int .i64 e.w) := cell_of_row _ _ 0 _ _ _ hBk
  have e1 : W.cell? ⟨w.heap.size, 1, none⟩ = some (.int .u64 e.o) := cell_of_row _ _ 1 _ _ _ hBk
  have e2 : W.cell? ⟨w.heap.size, 2, none⟩ = some (.int .i64 e.g) := cell_of_row _ _ 2 _ _ _ hBk
  have hc := HP.out.cell
  have hfz := HP.out.free
  have hbw := HP.out.lt
  have HBK := Lib.hid hBk
  have HSZ := Lib.hid hsz
  have hown := HP.out.owns
  rw [← HN.out] at hown
  have HOWN := Lib.hid hown
  have hvb := Lib.hid (fun (e : v.ownBlock = some b) => (HP.out.ownlt b e).2.1 rfl)
  have hwlt : w.heap.size < W.heap.size := by rw [hsz]; omega
  have hvB := Lib.hid (fun (e : v.ownBlock = some w.heap.size) => by have := (H.out.ownlt _ e).1; omega)
  have hbB : b < w.heap.size := H.out.lt
  clear hBk hsz hown
  have hfz2 : ∀ o : Obj, (W.alloc o).frozen? ⟨b, i, none⟩ = false := fun o => (World.frozen?_alloc_past _ _ _ hbw).trans hfz
  go_region_law (refine step_append_lies _ (by rfl) _ _ 40 (by rfl) base 30 i0 _ 3 24 Try.underlying40 hi hz0 hz1 hz2 rfl (by omega) v n (flat es) (by rfl) ((HOWN.out.alloc _).drew) ⟨W.heap.size, 0, none⟩ 1 1 (flat [e]) (by rfl) (by rfl) (World.news_of_block (cs := #[.int .i64 e.w, .int .u64 e.o, .int .i64 e.g]) (t := 30) (fr := (0, 0)) (heap_alloc_new W _)) (flat_one e) (by omega) (by unfold maxLen; omega) (by omega) (by simp; omega) (W.heap.size + 1) (by simp) ?_; intro g cap w1 hown1 hgrow hat hlt; have hcA := (put_keep (p := ⟨b, i, none⟩) hgrow hbw hvb.out).1.trans hc; have hfA := (put_keep (p := ⟨b, i, none⟩) hgrow hbw hvb.out).2.trans hfz)
  all_goals
    obtain ⟨hr1, hb1⟩ := row3_of_owns (es := es ++ [e]) (by rw [flat_append]; exact hown1) (by rw [List.length_append, ← HN.out]; rfl)
    have hgb : b ≠ g := by
      rcases hat with h1 | h1
      · exact fun e => hvb.out (by rw [e]; exact h1)
      · omega
    have hr2 := Lib.hid (hr1.heap (heap_setCell_other w1 ⟨b, i, none⟩ g (.slice (some ⟨g, 0, none⟩) (n + 1) cap) (fun e => hgb e.symm)))
    have hc2 := World.cell?_setCell_same w1 ⟨b, i, none⟩ (.slice (some ⟨g, 0, none⟩) (n + 1) cap) hcA
    have HGR := Lib.hid (And.intro hgrow (And.intro hat (And.intro hcA hfA)))
    clear hown1 hgrow hat hr1 hcA hfA hc e0 e1 e2 hfz hfz2
    go_wp2_with fail
    refine (up_r _ b i g cap (es ++ [e]) hr2.out (n + 1) (by rw [List.length_append, ← HN.out]; rfl) hc2 hgb (by omega) n (by omega) _ (by push_cast; omega)).mono ?_
    rintro x w3 ⟨rfl, hr3, hg3⟩
    have HD := Lib.hid (put_done H.out HW.out HGR.out.1 HGR.out.2.1 HGR.out.2.2.1 HGR.out.2.2.2 hb1 hr3 hg3 (by rw [upL_len, List.length_append, ← HN.out]; rfl))
    clear hr3 hg3
    go_wp2_with fail
    go_end0
    exact ⟨_, rfl, by rw [← HN.out]; exact HD.out.1, HD.out.2⟩
end Go.Proofs.Ytmaahidipbghfaa.Hp
