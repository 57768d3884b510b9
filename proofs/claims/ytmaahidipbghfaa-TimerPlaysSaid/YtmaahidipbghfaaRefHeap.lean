/-
  hostlerref09: Put and Remove, over rows of entries; hostlerlaw09.same.
-/
import Derived.Test.YtmaahidipbghfaaHeapMore
namespace Go.Proofs.Ytmaahidipbghfaa.Hp
open Go.RowKit Go.Shelf
set_option linter.unusedVariables false
set_option linter.unusedSimpArgs false

abbrev TE : TypeId := 52
/-- The value is a slice of the document's entries that owns its row. -/
def OwnsR (w : World) (base : Nat) (v : Value) (es : List Ent) : Prop := w.ownsRow base TE 3 v es.length (flat es)
/-- The value is a slice that reads as the document's entries, in a block from lo on. -/
def RSees (w : World) (lo : Nat) (v : Value) (es : List Ent) : Prop :=
  ∃ a cap, v = .slice a es.length cap ∧ es.length ≤ cap ∧ cap ≤ maxLen ∧ (∀ c, a = some c → lo ≤ c.block ∧ c.block < w.heap.size) ∧
    ∀ i e, es[i]? = some e → ∃ c, a = some c ∧ w.cell? (c.add (i * 3)) = some (.int .i64 e.w) ∧ w.cell? ⟨(c.add (i * 3)).block, (c.add (i * 3)).off + 1, none⟩ = some (.int .u64 e.o) ∧ w.cell? ⟨(c.add (i * 3)).block, (c.add (i * 3)).off + 2, none⟩ = some (.int .i64 e.g)

theorem infoE : (Try.prog.info? TE).map (fun i => (i.zero, i.size, i.bytes)) = some (some (.agg #[.int .i64 0, .int .u64 0, .int .i64 0]), 3, 24) := by kernel_rfl
theorem rsees_nil (w : World) (lo : Nat) : RSees w lo (.slice none 0 0) [] := ⟨none, 0, rfl, by simp, by simp [maxLen], (fun c h => by cases h), fun i e h => by simp at h⟩
theorem addr_block (a : Addr) (n : Nat) : (a.add n).block = a.block := by unfold Addr.add; split <;> rfl
theorem OwnsR.sees {w : World} {base lo : Nat} {v : Value} {es : List Ent} (h : OwnsR w base v es) (hb : lo ≤ base) : RSees w lo v es := by
  rcases h.2 with ⟨rfl, h0⟩ | ⟨g, cap, cur, rfl, h1, h2, h3, h4, h5, h6⟩
  · have : es = [] := List.length_eq_zero_iff.1 h0
    subst this; exact rsees_nil w lo
  · refine ⟨_, cap, rfl, h3, h4, fun c e => by cases e; exact ⟨Nat.le_trans hb h1, (Array.getElem?_eq_some_iff.1 h2).1⟩, fun i e hi => ⟨_, rfl, ?_⟩⟩
    have hadd : (⟨g, 0, none⟩ : Addr).add (i * 3) = ⟨g, i * 3, none⟩ := by unfold Addr.add; split <;> simp_all
    rw [hadd]
    have hil := (List.getElem?_eq_some_iff.1 hi).1
    obtain ⟨f0, f1, f2⟩ := flat_get hi
    have key : ∀ j u, j < es.length * 3 → (flat es)[j]? = some u → w.cell? ⟨g, j, none⟩ = some u := fun j u hj hu => by
      rw [cell_of_row w g j cur _ _ h2]
      rw [← h6, List.getElem?_take_of_lt hj] at hu
      simpa using hu
    exact ⟨key (i * 3) _ (by omega) f0, key (i * 3 + 1) _ (by omega) f1, key (i * 3 + 2) _ (by omega) f2⟩
theorem RSees.kept {w w' : World} {lo : Nat} {v : Value} {es : List Ent} (h : RSees w lo v es) (hs : w.heap.size ≤ w'.heap.size) (hb : ∀ j, v.ownBlock = some j → w'.heap[j]? = w.heap[j]?) : RSees w' lo v es := by
  obtain ⟨a, cap, rfl, h1, h2, h3, h4⟩ := h
  refine ⟨a, cap, rfl, h1, h2, fun c e => ⟨(h3 c e).1, Nat.lt_of_lt_of_le (h3 c e).2 hs⟩, fun i e hi => ?_⟩
  obtain ⟨c, rfl, c0, c1, c2⟩ := h4 i e hi
  have hc := hb c.block rfl
  exact ⟨c, rfl, (World.cell?_of_block (by rw [addr_block]; exact hc)).trans c0, (World.cell?_of_block (by show w'.heap[(c.add (i * 3)).block]? = _; rw [addr_block]; exact hc)).trans c1, (World.cell?_of_block (by show w'.heap[(c.add (i * 3)).block]? = _; rw [addr_block]; exact hc)).trans c2⟩
theorem RSees.own {w : World} {lo : Nat} {v : Value} {es : List Ent} (h : RSees w lo v es) {j : Nat} (hj : v.ownBlock = some j) : lo ≤ j ∧ j < w.heap.size := by
  obtain ⟨a, cap, rfl, h1, h2, h3, h4⟩ := h
  cases a with
  | none => simp [Value.ownBlock] at hj
  | some c => simp [Value.ownBlock] at hj; subst hj; exact h3 c rfl
theorem RSees.below {w w' : World} {lo : Nat} {v : Value} {es : List Ent} (h : RSees w lo v es) (hb : Below w.heap.size w w') : RSees w' lo v es :=
  h.kept hb.size fun j hj => hb.block j (h.own hj).2

theorem wpList_append_ent {ops : Array Oper} {rest : List Oper} {o : Oper} {a : Act} {Q : Exit → Act → World → Prop} (hgd : o.guard = none) (s x : Operand)
    (ho : o.op = .call { callee := .builtin .append, args := #[s, x], argTypes := #[58, 58] }) (W : World) (base : Nat) (v : Value) (es : List Ent) (e : Ent)
    (N : Nat) (hN : W.heap.size = N) (hs : a.eval s = v) (hown : OwnsR W base v es) (hx : a.eval x = .slice (some ⟨N, 0, none⟩) 1 1) (hlen : es.length ≤ 100000) (hbase : base ≤ W.heap.size)
    (h : ∀ v' w', OwnsR w' base v' (es ++ [e]) → W.grownBy w' v.ownBlock → wpList Try.prog ops Q rest (a.put o.dst v') w') : wpList Try.prog ops Q (o :: rest) a (W.alloc (.cells #[.int .i64 e.w, .int .u64 e.o, .int .i64 e.g] TE)) := by
  subst hN
  obtain ⟨i0, hi, hz0, hz1, hz2⟩ := info_parts infoE
  refine wpList_append_own _ hgd s x 58 ho base TE i0 _ 3 24 Try.underlying58 hi hz0 hz1 hz2 rfl (by decide) v es.length (flat es) hs (World.ownsRow.alloc hown _) ⟨W.heap.size, 0, none⟩ 1 1 [.int .i64 e.w, .int .u64 e.o, .int .i64 e.g] hx rfl (World.news_of_block (cs := #[.int .i64 e.w, .int .u64 e.o, .int .i64 e.g]) (heap_alloc_new _ _)) (by simp [Value.oneCell']) (by unfold maxLen; omega) (by omega) (by simp; omega) fun v' w' h1 h2 _ => h v' w' (by unfold OwnsR; rw [List.length_append, flat_append]; exact h1) ?_
  exact ⟨h2.os, h2.tape, h2.output, Nat.le_trans (by simp) h2.size, fun j hj hne => (h2.block j (by simp; omega) hne).trans (by rw [heap_alloc_old (h := hj)])⟩

/-- One more, in its place. -/
def ins (e : Ent) : List Ent → List Ent
  | [] => [e]
  | x :: t => if aheadB e x then e :: x :: t else x :: ins e t
theorem ins_at (e : Ent) : ∀ (p t : List Ent), (∀ x ∈ p, aheadB e x = false) → ins e (p ++ t) = p ++ ins e t
  | [], t, _ => rfl
  | x :: p, t, h => by
    rw [List.cons_append, ins, if_neg (by rw [h x (by simp)]; decide), ins_at e p t (fun y hy => h y (by simp [hy]))]; rfl
theorem ins_perm (e : Ent) : ∀ l, (ins e l).Perm (e :: l)
  | [] => List.Perm.refl _
  | x :: t => by
    unfold ins; split
    · exact List.Perm.refl _
    · exact (List.Perm.cons x (ins_perm e t)).trans (List.Perm.swap e x t)
theorem ins_sorted (e : Ent) : ∀ l, l.Pairwise le → (ins e l).Pairwise le
  | [], _ => by simp [ins]
  | x :: t, h => by
    obtain ⟨h1, h2⟩ := List.pairwise_cons.1 h
    unfold ins; split
    · rename_i ha
      refine List.pairwise_cons.2 ⟨fun y hy => ?_, h⟩
      rcases List.mem_cons.1 hy with rfl | hy
      · exact le_of_ahead ha
      · exact le_trans (le_of_ahead ha) (h1 y hy)
    · rename_i ha
      refine List.pairwise_cons.2 ⟨fun y hy => ?_, ins_sorted e t h2⟩
      rcases List.mem_cons.1 ((ins_perm e t).mem_iff.1 hy) with rfl | hy
      · have : aheadB y x = false := by simpa using ha
        exact this
      · exact h1 y hy
theorem ins_srt (e : Ent) (es : List Ent) : ins e (srt es) = srt (es ++ [e]) :=
  srt_unique ((ins_perm e _).trans ((List.Perm.cons e (srt_perm es)).trans (List.perm_append_comm (l₁ := [e])))) (ins_sorted e _ (srt_sorted es))

theorem drop_cons {es : List Ent} {k : Nat} {x : Ent} (h : es[k]? = some x) : es.drop k = x :: es.drop (k + 1) := by
  obtain ⟨h1, rfl⟩ := List.getElem?_eq_some_iff.1 h
  exact List.drop_eq_getElem_cons h1
theorem below_ownR {w a b : World} {v : Value} {es : List Ent} {B : Nat} (h : Below B w a) (ho : OwnsR a B v es) (k : a.grownBy b v.ownBlock) (hB : B ≤ a.heap.size) : Below B w b :=
  ⟨k.os.trans h.os, k.tape.trans h.tape, k.output.trans h.output, Nat.le_trans h.size k.size, fun j hj => (k.block j (by omega) (fun e => by have := (World.ownsRow.lt ho j e.symm).1; omega)).trans (h.block j hj)⟩

theorem below_ownR' {w a b : World} {v : Value} {es : List Ent} {B n : Nat} (h : Below n w a) (ho : OwnsR a B v es) (k : a.grownBy b v.ownBlock) (hB : n ≤ a.heap.size ∧ n ≤ B) : Below n w b :=
  ⟨k.os.trans h.os, k.tape.trans h.tape, k.output.trans h.output, Nat.le_trans h.size k.size, fun j hj => (k.block j (by omega) (fun e => by have := (World.ownsRow.lt ho j e.symm).1; omega)).trans (h.block j hj)⟩
theorem OwnsR.lower {w : World} {base base' : Nat} {v : Value} {es : List Ent} (h : OwnsR w base v es) (hb : base' ≤ base) : OwnsR w base' v es := by
  obtain ⟨h0, h⟩ := h
  refine ⟨h0, ?_⟩
  rcases h with h | ⟨g, cap, cur, e, h1, h2⟩
  · exact .inl h
  · exact .inr ⟨g, cap, cur, e, Nat.le_trans hb h1, h2⟩

set_option maxRecDepth 100000 in
set_option maxHeartbeats 2000000 in
theorem rput_is {w : World} {v : Value} {es : List Ent} {lo : Nat} (hv : RSees w lo v es) (hbig : es.length ≤ 1000) (e : Ent) :
    Calls Try.prog 29 #[v, e.agg] w fun x w' => ∃ v', x = .returned v' ∧ OwnsR w' w.heap.size v' (ins e es) ∧ Below w.heap.size w w' := by
  have HV := Lib.hid hv
  obtain ⟨a, cap, rfl, hle, hmx, _, _⟩ := hv
  have hcap : (es.length : Int) ≤ (cap : Int) := by omega
  go_enter Try.func29, Try.ntmps29
  go_wp2_with fail
  have hE : (w.alloc (.cells #[.int .i64 e.w, .int .u64 e.o, .int .i64 e.g] TE)).heap[w.heap.size]? = some (.cells e.cells TE (0, 0)) := heap_alloc_new _ _
  have hb0 : Below w.heap.size w (w.alloc (.cells #[.int .i64 e.w, .int .u64 e.o, .int .i64 e.g] TE)) := (Below.refl _ _).alloc (Nat.le_refl _) _
  have H0 := Lib.hid (And.intro hE hb0)
  clear hE hb0
  generalize (w.alloc (.cells #[.int .i64 e.w, .int .u64 e.o, .int .i64 e.g] TE)) = W at *
  go_loopw [5, 6, 11] (fun ov dv i wr => ∃ (k : Nat) (d : Bool) (out : List Ent), k ≤ es.length ∧ i = .int .i64 k ∧ dv = .bool d ∧ out.length ≤ k + 1 ∧ OwnsR wr (w.heap.size + 1) ov out ∧ wr.heap[w.heap.size]? = some (.cells e.cells TE (0, 0)) ∧ Below w.heap.size w wr ∧ ((d = false ∧ out = es.take k ∧ ∀ x ∈ es.take k, aheadB e x = false) ∨ (d = true ∧ out ++ es.drop k = ins e es))) (fun _ _ i _ => es.length - (intOf i).toNat)
  case atStart => exact ⟨0, false, [], Nat.zero_le _, rfl, rfl, by simp, World.ownsRow_nil _ _ _ _, H0.out.1, H0.out.2, .inl ⟨rfl, rfl, by simp⟩⟩
  case round =>
    obtain ⟨k, d, out, hk, rfl, rfl, hol, ho, hE, hb, hd⟩ := hrel
    obtain ⟨oa, oc, rfl, _⟩ := OwnsR.sees ho (Nat.le_refl _)
    have H := Lib.hid (And.intro ho (And.intro hE hb))
    have HD := Lib.hid hd
    have hsz := (Array.getElem?_eq_some_iff.1 hE).1
    clear H0 ho hb hd
    by_cases hlt : k < es.length
    · obtain ⟨x, hx⟩ : ∃ x, es[k]? = some x := ⟨_, List.getElem?_eq_getElem hlt⟩
      obtain ⟨c, rfl, c0, c1, c2⟩ : ∃ c, a = some c ∧ wr.cell? (c.add (k * 3)) = some (.int .i64 x.w) ∧ wr.cell? ⟨(c.add (k * 3)).block, (c.add (k * 3)).off + 1, none⟩ = some (.int .u64 x.o) ∧ wr.cell? ⟨(c.add (k * 3)).block, (c.add (k * 3)).off + 2, none⟩ = some (.int .i64 x.g) := by
        obtain ⟨_, _, e1, _, _, _, h⟩ := HV.out.below H.out.2.2
        obtain ⟨rfl, _, _⟩ := Value.slice.inj e1
        exact h k x hx
      have HX := Lib.hid hx
      have hX : (wr.alloc (.cells #[.int .i64 x.w, .int .u64 x.o, .int .i64 x.g] TE)).heap[wr.heap.size]? = some (.cells x.cells TE (0, 0)) := heap_alloc_new _ _
      have hal : Below wr.heap.size wr (wr.alloc (.cells #[.int .i64 x.w, .int .u64 x.o, .int .i64 x.g] TE)) := (Below.refl _ _).alloc (Nat.le_refl _) _
      have hE1 := (hal.block _ hsz).trans hE
      have H1 := Lib.hid (And.intro (World.ownsRow.alloc H.out.1 (.cells #[.int .i64 x.w, .int .u64 x.o, .int .i64 x.g] TE)) (And.intro hE1 (And.intro (H.out.2.2.trans (hal.mono H.out.2.2.size)) hX)))
      have hsz1 : wr.heap.size < (wr.alloc (.cells #[.int .i64 x.w, .int .u64 x.o, .int .i64 x.g] TE)).heap.size := by simp
      clear hx hX hal hE1
      cases d with
      | true =>
        have HD1 : Hid (out ++ es.drop k = ins e es) := Lib.hid (by rcases HD.out with ⟨h, _⟩ | ⟨_, h⟩; cases h; exact h)
        clear HD
        go_wp2_with (refine wpList_append_ent rfl _ _ rfl (wr.alloc (.cells #[.int .i64 x.w, .int .u64 x.o, .int .i64 x.g] TE)) (w.heap.size + 1) (.slice oa out.length oc) out x (wr.heap.size + 1) (by simp) rfl H1.out.1 rfl ?ql ?qb ?_)
        case ql => omega
        case qb => simp; omega
        intro v' w3 ho3 hg3
        have H3 := Lib.hid (And.intro ho3 (And.intro ((hg3.block _ (by simp; omega) (fun e => by have := (World.ownsRow.lt H1.out.1 _ e.symm).1; omega)).trans H1.out.2.1) (below_ownR' H1.out.2.2.1 H1.out.1 hg3 ⟨by first | omega | (simp; omega), by omega⟩)))
        clear ho3 hg3
        go_wp2
        go_roundw
        case rel => exact ⟨k + 1, true, out ++ [x], by omega, by go_num, rfl, by simp; omega, H3.out.1, H3.out.2.1, H3.out.2.2, .inr ⟨rfl, by rw [← HD1.out, drop_cons HX.out]; simp⟩⟩
        case measure => simp [intOf]; omega
      | false =>
        have HD1 : Hid (out = es.take k ∧ ∀ x ∈ es.take k, aheadB e x = false) := Lib.hid (by rcases HD.out with ⟨_, h⟩ | ⟨h, _⟩; exact h; cases h)
        clear HD
        have HOL : Hid (out.length ≤ k) := Lib.hid (by rw [HD1.out.1, List.length_take]; omega)
        have z0 : (wr.alloc (.cells #[.int .i64 x.w, .int .u64 x.o, .int .i64 x.g] TE)).cell? ⟨w.heap.size, 0, none⟩ = some (.int .i64 e.w) := cell_of_row _ _ 0 _ _ _ H1.out.2.1
        have z1 : (wr.alloc (.cells #[.int .i64 x.w, .int .u64 x.o, .int .i64 x.g] TE)).cell? ⟨w.heap.size, 1, none⟩ = some (.int .u64 e.o) := cell_of_row _ _ 1 _ _ _ H1.out.2.1
        have z2 : (wr.alloc (.cells #[.int .i64 x.w, .int .u64 x.o, .int .i64 x.g] TE)).cell? ⟨w.heap.size, 2, none⟩ = some (.int .i64 e.g) := cell_of_row _ _ 2 _ _ _ H1.out.2.1
        go_wp2_with fail
        refine (rahead_is e x _).mono ?_
        rintro e1 w2 ⟨rfl, hb2⟩
        have ho2 : OwnsR w2 (w.heap.size + 1) (.slice oa out.length oc) out := by
          have h := H1.out.1
          refine World.ownsRow.kept h (row := none) ⟨hb2.os, hb2.tape, hb2.output, hb2.size, fun k hk _ => hb2.block k hk⟩ ?_
          rcases (show (Value.slice oa out.length oc).ownBlock = none ∨ ∃ j, (Value.slice oa out.length oc).ownBlock = some j by cases (Value.slice oa out.length oc).ownBlock <;> simp) with h | ⟨j, h⟩
          · exact .inl h
          · exact .inr (by rw [h]; simp)
        have hE2 := (hb2.block w.heap.size (by simp; omega)).trans H1.out.2.1
        have hX2 := (hb2.block wr.heap.size hsz1).trans H1.out.2.2.2
        have hB2 := H1.out.2.2.1.trans (hb2.mono H1.out.2.2.1.size)
        have hs2 : wr.heap.size + 1 ≤ w2.heap.size := by have := hb2.size; simpa using this
        have H2 := Lib.hid (And.intro ho2 (And.intro hE2 (And.intro hX2 hB2)))
        have y0 : w2.cell? ⟨wr.heap.size, 0, none⟩ = some (.int .i64 x.w) := cell_of_row _ _ 0 _ _ _ hX2
        have y1 : w2.cell? ⟨wr.heap.size, 1, none⟩ = some (.int .u64 x.o) := cell_of_row _ _ 1 _ _ _ hX2
        have y2 : w2.cell? ⟨wr.heap.size, 2, none⟩ = some (.int .i64 x.g) := cell_of_row _ _ 2 _ _ _ hX2
        cases hax : aheadB e x with
        | false =>
          have HAX := Lib.hid hax
          clear ho2 hE2 hX2 hB2 hb2 z0 z1 z2 c0 c1 c2 hax
          go_wp2_with (refine wpList_append_ent rfl _ _ rfl w2 (w.heap.size + 1) (.slice oa out.length oc) out x w2.heap.size rfl rfl H2.out.1 rfl ?ql1 ?qb1 ?_)
          case ql1 => omega
          case qb1 => omega
          intro v' w3 ho3 hg3
          have H3 := Lib.hid (And.intro ho3 (And.intro ((hg3.block _ (by omega) (fun e => by have := (World.ownsRow.lt H2.out.1 _ e.symm).1; omega)).trans H2.out.2.1) (below_ownR' H2.out.2.2.2 H2.out.1 hg3 ⟨by first | omega | (simp; omega), by omega⟩)))
          clear ho3 hg3
          go_wp2
          go_roundw
          case rel => exact ⟨k + 1, false, out ++ [x], by omega, by go_num, rfl, by simp; omega, H3.out.1, H3.out.2.1, H3.out.2.2, .inl ⟨rfl, by rw [HD1.out.1, take_ent HX.out], fun y hy => by
            rw [take_ent HX.out] at hy
            rcases List.mem_append.1 hy with hy | hy
            · exact HD1.out.2 y hy
            · rw [List.mem_singleton.1 hy]; exact HAX.out⟩⟩
          case measure => simp [intOf]; omega
        | true =>
          have HAX := Lib.hid hax
          have z0 : w2.cell? ⟨w.heap.size, 0, none⟩ = some (.int .i64 e.w) := cell_of_row _ _ 0 _ _ _ hE2
          have z1 : w2.cell? ⟨w.heap.size, 1, none⟩ = some (.int .u64 e.o) := cell_of_row _ _ 1 _ _ _ hE2
          have z2 : w2.cell? ⟨w.heap.size, 2, none⟩ = some (.int .i64 e.g) := cell_of_row _ _ 2 _ _ _ hE2
          clear ho2 hE2 hX2 hB2 hb2 c0 c1 c2 hax
          go_wp2_with (refine wpList_append_ent rfl _ _ rfl w2 (w.heap.size + 1) (.slice oa out.length oc) out e w2.heap.size rfl rfl H2.out.1 rfl ?ql2 ?qb2 ?_)
          case ql2 => omega
          case qb2 => omega
          intro v' w3 ho3 hg3
          have hX3 := (hg3.block wr.heap.size (by omega) (fun e => by have := (World.ownsRow.lt H.out.1 _ e.symm).2; omega)).trans H2.out.2.2.1
          have H3 := Lib.hid (And.intro ho3 (And.intro ((hg3.block _ (by omega) (fun e => by have := (World.ownsRow.lt H2.out.1 _ e.symm).1; omega)).trans H2.out.2.1) (below_ownR' H2.out.2.2.2 H2.out.1 hg3 ⟨by first | omega | (simp; omega), by omega⟩)))
          have hs3 := hg3.size
          have y0 : w3.cell? ⟨wr.heap.size, 0, none⟩ = some (.int .i64 x.w) := cell_of_row _ _ 0 _ _ _ hX3
          have y1 : w3.cell? ⟨wr.heap.size, 1, none⟩ = some (.int .u64 x.o) := cell_of_row _ _ 1 _ _ _ hX3
          have y2 : w3.cell? ⟨wr.heap.size, 2, none⟩ = some (.int .i64 x.g) := cell_of_row _ _ 2 _ _ _ hX3
          clear ho3 hg3 hX3 z0 z1 z2
          go_wp2_with (refine wpList_append_ent rfl _ _ rfl w3 (w.heap.size + 1) v' (out ++ [e]) x w3.heap.size rfl rfl H3.out.1 rfl ?ql3 ?qb3 ?_)
          case ql3 => simp; omega
          case qb3 => omega
          intro v4 w4 ho4 hg4
          have H4 := Lib.hid (And.intro ho4 (And.intro ((hg4.block _ (by omega) (fun e => by have := (World.ownsRow.lt H3.out.1 _ e.symm).1; omega)).trans H3.out.2.1) (below_ownR' H3.out.2.2 H3.out.1 hg4 ⟨by first | omega | (simp; omega), by omega⟩)))
          clear ho4 hg4
          go_wp2
          go_roundw
          case rel => exact ⟨k + 1, true, out ++ [e, x], by omega, by go_num, rfl, by simp; have := HOL.out; omega, H4.out.1, H4.out.2.1, H4.out.2.2, .inr ⟨rfl, by
            have h := ins_at e (es.take k) (es.drop k) HD1.out.2
            rw [List.take_append_drop] at h
            rw [h, HD1.out.1, drop_cons HX.out, ins, if_pos HAX.out]; simp⟩⟩
          case measure => simp [intOf]; omega
    · obtain rfl : k = es.length := by omega
      cases d with
      | true =>
        have HD1 : Hid (out = ins e es) := Lib.hid (by rcases HD.out with ⟨h, _⟩ | ⟨_, h⟩; cases h; simpa using h)
        clear HD
        go_wp2_with fail
        go_ret
        exact ⟨_, rfl, by rw [← HD1.out]; exact OwnsR.lower H.out.1 (by omega), H.out.2.2⟩
      | false =>
        have HD1 : Hid (out ++ [e] = ins e es) := Lib.hid (by
          rcases HD.out with ⟨_, h1, h2⟩ | ⟨h, _⟩
          · have h := ins_at e es [] (by rw [List.take_length] at h2; exact h2)
            rw [List.append_nil] at h
            rw [h, h1, List.take_length]; rfl
          · cases h)
        clear HD
        have z0 : wr.cell? ⟨w.heap.size, 0, none⟩ = some (.int .i64 e.w) := cell_of_row _ _ 0 _ _ _ hE
        have z1 : wr.cell? ⟨w.heap.size, 1, none⟩ = some (.int .u64 e.o) := cell_of_row _ _ 1 _ _ _ hE
        have z2 : wr.cell? ⟨w.heap.size, 2, none⟩ = some (.int .i64 e.g) := cell_of_row _ _ 2 _ _ _ hE
        clear hE
        go_wp2_with (refine wpList_append_ent rfl _ _ rfl wr (w.heap.size + 1) (.slice oa out.length oc) out e wr.heap.size rfl rfl H.out.1 rfl ?ql4 ?qb4 ?_)
        case ql4 => omega
        case qb4 => omega
        intro v' w3 ho3 hg3
        have H3 := Lib.hid (And.intro ho3 (below_ownR' H.out.2.2 H.out.1 hg3 ⟨by omega, by omega⟩))
        clear ho3 hg3
        go_wp2
        go_ret
        exact ⟨_, rfl, by rw [← HD1.out]; exact OwnsR.lower H3.out.1 (by omega), H3.out.2⟩
end Go.Proofs.Ytmaahidipbghfaa.Hp
