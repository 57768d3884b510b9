/-
  The law HeapRemoves.
-/
import Derived.Test.YtlnbjnkmhabdaaaHeapRem
import Derived.Test.YtlnbjnkmhabdaaaHeapLives
import Derived.Test.YtlnbjnkmhabdaaaHeapLen
import Derived.Test.YtlnbjnkmhabdaaaArgs
import Derived.Deep.QuietTactic
import Derived.BigQuiet
import Derived.Deep.DeepCutAuto
namespace Go.Proofs.Ytlnbjnkmhabdaaa.Hp
open Go.RowKit Go.Shelf
set_option linter.unusedVariables false
set_option linter.unusedSimpArgs false

theorem add_next' (c : Addr) (n j : Nat) (hj : j ≠ 0) : c.add (n + j) = ⟨(c.add n).block, (c.add n).off + j, none⟩ := by
  unfold Addr.add
  by_cases hn : n = 0
  · subst hn; simp [hj]
  · simp [hn, Nat.add_assoc]
theorem remove_x {w : World} {base b i : Nat} {v : Value} {es : List Ent} (h : IsHp w base b i v es) (hbase : base ≤ w.heap.size) (hbig : es.length ≤ 1000) (g : Int) {m : Nat} (hm : es.length = m + (keepG g es).length) :
    Calls Try.prog 13 #[.pointer (some ⟨b, i, none⟩), .int .i64 g] w fun e w' => ∃ v' es', e = .returned (.int .i64 m) ∧ IsHp w' base b i v' es' ∧ es'.Perm (keepG g es) ∧ Heapish es' ∧ HFr w w' b i v v' := by
  refine (remove_is h hbase hbig g).mono ?_
  rintro e w' ⟨v', es', rfl, h⟩
  exact ⟨v', es', ret_i (by omega), h⟩
theorem len_x {w : World} {base b i : Nat} {v : Value} {es : List Ent} (h : IsHp w base b i v es) (hbig : es.length ≤ 1000000) {m : Nat} (hm : es.length = m) :
    Calls Try.prog 14 #[.pointer (some ⟨b, i, none⟩)] w fun e w' => e = .returned (.int .i64 m) ∧ w = w' := by subst hm; exact len_is h hbig
theorem sorted_x {w : World} {base b i : Nat} {v : Value} {es L : List Ent} (h : IsHp w base b i v es) (hbig : es.length ≤ 1000) (hL : srt es = L) :
    Calls Try.prog 15 #[.pointer (some ⟨b, i, none⟩)] w fun e w' => ∃ a c, e = .returned (.slice a L.length c) ∧ ESees w' (.slice a L.length c) L ∧ Below w.heap.size w w' := by subst hL; exact sorted_is h hbig

theorem cells_drewN {w : World} {a : Addr} {v : Value} (h : w.cell? a = some v) (n : Nat) : (w.drewN n).cell? a = some v := by rw [World.cell?_drewN]; exact h
theorem keepG_perm {g : Int} {es fs : List Ent} (h : es.Perm fs) : (keepG g es).Perm (keepG g fs) := h.filter _
theorem keepG_twice (g : Int) (es : List Ent) : keepG g (keepG g es) = keepG g es := by unfold keepG; rw [List.filter_filter]; congr 1; funext x; simp
theorem keepG_mem {g : Int} {es : List Ent} {x : Ent} (h : x ∈ keepG g es) : x.g ≠ g := by
  unfold keepG at h; have := (List.mem_filter.1 h).2; simpa using this
theorem srt_eq {es fs : List Ent} (h : es.Perm fs) : srt es = srt fs := srt_unique ((srt_perm es).trans h) (srt_sorted es)
def Zs (z : Nat → Ent) (k : Nat) : List Ent := (List.range k).map z
theorem Zs_succ (z : Nat → Ent) (k : Nat) : Zs z (k + 1) = Zs z k ++ [z k] := by simp [Zs, List.range_succ]
theorem Zs_len (z : Nat → Ent) (k : Nat) : (Zs z k).length = k := by simp [Zs]
theorem keepG_snoc_yes {g : Int} {l : List Ent} {x : Ent} (h : x.g ≠ g) : keepG g (l ++ [x]) = keepG g l ++ [x] := by unfold keepG; rw [List.filter_append]; simp [h]
theorem keepG_snoc_no {g : Int} {l : List Ent} {x : Ent} (h : x.g = g) : keepG g (l ++ [x]) = keepG g l := by unfold keepG; rw [List.filter_append]; simp [h]
theorem put_perm {es l : List Ent} (hh : Heapish es) (h : es.Perm l) (x : Ent) : (upL (es ++ [x]) es.length).Perm (l ++ [x]) :=
  (put_law hh x).1.trans ((List.Perm.cons x h).trans (List.perm_append_comm (l₁ := [x])))

/-- Two heaps. -/
structure Pair (w wr : World) (A B : Nat) (va vb : Value) (ea eb : List Ent) : Prop where
  ha : IsHp wr A A 0 va ea
  hb : IsHp wr A B 0 vb eb
  ia : Heapish ea
  ib : Heapish eb
  ab : A < B
  xa : va.ownBlock ≠ some B
  xb : vb.ownBlock ≠ some A
  xx : ∀ j, va.ownBlock = some j → vb.ownBlock ≠ some j
  below : Below w.heap.size w wr
  low : w.heap.size ≤ A
section
variable {w wr w' : World} {A B : Nat} {va vb va' vb' : Value} {ea eb ea' eb' : List Ent}
theorem Pair.size (P : Pair w wr A B va vb ea eb) : A ≤ wr.heap.size ∧ B < wr.heap.size := ⟨Nat.le_of_lt P.ha.lt, P.hb.lt⟩
theorem Pair.none (P : Pair w wr A B va vb ea eb) (hg : wr.grownBy w' Option.none) : Pair w w' A B va vb ea eb :=
  ⟨P.ha.grown hg, P.hb.grown hg, P.ia, P.ib, P.ab, P.xa, P.xb, P.xx, ⟨hg.os.trans P.below.os, hg.tape.trans P.below.tape, hg.output.trans P.below.output, Nat.le_trans P.below.size hg.size, fun k hk => (hg.block k (Nat.lt_of_lt_of_le hk P.below.size) (by simp)).trans (P.below.block k hk)⟩, P.low⟩
theorem Pair.deedA (P : Pair w wr A B va vb ea eb) (h : IsHp w' A A 0 va' ea') (hh : Heapish ea') (hf : HFr wr w' A 0 va va') : Pair w w' A B va' vb ea' eb := by
  have hab := P.ab
  have hsz := P.size
  have hbl : Below w.heap.size w w' := P.below.trans ((hf.below (B := A) (Nat.le_refl _) P.ha.base_le hsz.1).mono P.low)
  refine ⟨h, P.hb.heap (hf.block B P.hb.lt (by omega) P.xa) (fun g e => hf.block g (P.hb.ownlt g e).1 (fun e2 => P.xb (by rw [e, e2])) (fun e2 => P.xx g e2 e)), hh, P.ib, P.ab, ?_, P.xb, fun j hj hb => ?_, hbl, P.low⟩
  · rcases hf.own with h1 | h1
    · rw [h1]; exact P.xa
    · intro e; have := h1 B e; omega
  · rcases hf.own with h1 | h1
    · rw [h1] at hj; exact P.xx j hj hb
    · have := h1 j hj; have := (P.hb.ownlt j hb).1; omega
theorem Pair.deedB (P : Pair w wr A B va vb ea eb) (h : IsHp w' A B 0 vb' eb') (hh : Heapish eb') (hf : HFr wr w' B 0 vb vb') : Pair w w' A B va vb' ea eb' := by
  have hab := P.ab
  have hsz := P.size
  have hbl : Below w.heap.size w w' := P.below.trans ((hf.below (B := A) (by omega) P.hb.base_le hsz.1).mono P.low)
  refine ⟨P.ha.heap (hf.block A P.ha.lt (by omega) P.xb) (fun g e => hf.block g (P.ha.ownlt g e).1 (fun e2 => P.xa (by rw [e, e2])) (fun e2 => P.xx g e e2)), h, P.ia, hh, P.ab, P.xa, ?_, fun j hj hb => ?_, hbl, P.low⟩
  · rcases hf.own with h1 | h1
    · rw [h1]; exact P.xb
    · intro e; have := h1 A e; omega
  · rcases hf.own with h1 | h1
    · rw [h1] at hb; exact P.xx j hj hb
    · have := h1 j hb; have := (P.ha.ownlt j hj).1; omega
end

set_option maxRecDepth 100000 in
set_option maxHeartbeats 4000000 in
theorem removes_short (a : Option Addr) (len cap : Nat) (z : Nat → Ent) (g : Int) (w : World) (hl : len ≤ 60) (hnil : a = none → len = 0)
    (hc : ∀ b, a = some b → ∀ i, i < len → w.cell? (b.add (i * 3)) = some (.int .i64 (z i).w) ∧ w.cell? (b.add (i * 3 + 1)) = some (.int .u64 (z i).o) ∧ w.cell? (b.add (i * 3 + 2)) = some (.int .i64 (z i).g)) :
    Calls Try.prog 5 #[.slice a len cap, .int .i64 g] w fun e w' => e = .returned (.bool true) ∧ Below w.heap.size w w' := by
  have hlt : ¬ (60 < len) := by omega
  have HC := Lib.hid hc
  have HN := Lib.hid hnil
  clear hc hnil
  go_enter Try.func5, Try.ntmps5
  go_wp2_with fail
  refine (lives_is w).mono ?_
  rintro e w0 ⟨rfl, hb⟩
  have HB := Lib.hid hb
  clear hb
  go_wp2_with fail
  have P0 : Pair w ((w0.alloc (.cells #[.slice none 0 0] 32)).alloc (.cells #[.slice none 0 0] 32)) w0.heap.size (w0.heap.size + 1) (.slice none 0 0) (.slice none 0 0) [] [] := by
    have h1 := (hp_new w0 w0.heap.size).grown (World.grownBy_alloc _ (.cells #[.slice none 0 0] 32) _)
    have h2 := hp_new (w0.alloc (.cells #[.slice none 0 0] 32)) w0.heap.size
    rw [World.size_alloc] at h2
    exact ⟨h1, h2, heapish_nil, heapish_nil, by omega, by simp [Value.ownBlock], by simp [Value.ownBlock], fun j hj => by simp [Value.ownBlock] at hj, (HB.out.alloc HB.out.size _).alloc (by have := HB.out.size; simp; omega) _, HB.out.size⟩
  have P := Lib.hid P0
  clear P0 HB
  generalize ((w0.alloc (.cells #[.slice none 0 0] 32)).alloc (.cells #[.slice none 0 0] 32)) = W at *
  obtain ⟨B, hB⟩ : ∃ B, B = w0.heap.size + 1 := ⟨_, rfl⟩
  rw [← hB] at P ⊢
  clear hB
  generalize w0.heap.size = A at *
  go_loopw [7, 23] (fun p q wr => ∃ (k m : Nat) (va vb : Value) (ea eb : List Ent), k ≤ len ∧ q = .int .i64 k ∧ p = .int .i64 m ∧ m + eb.length = k ∧ ea.Perm (Zs z k) ∧ eb.Perm (keepG g (Zs z k)) ∧ Pair w wr A B va vb ea eb) (fun _ q _ => len - (intOf q).toNat)
  case atStart => exact ⟨0, 0, _, _, [], [], Nat.zero_le _, rfl, rfl, rfl, by simp [Zs], by simp [Zs, keepG], P.out⟩
  case round =>
    clear P
    obtain ⟨k, m, va, vb, ea, eb, hk, rfl, rfl, hm, hpa, hpb, hP⟩ := hrel
    have HP := Lib.hid hP
    have HPA := Lib.hid hpa
    have HPB := Lib.hid hpb
    have hel : ea.length = k := by have := hpa.length_eq; rwa [Zs_len] at this
    have HEL := Lib.hid hel
    have hebl : eb.length ≤ k := by omega
    have HM := Lib.hid hm
    have hmk : m ≤ k := by omega
    clear hP hpa hpb hel hm
    by_cases hlen : k < len
    · obtain ⟨c, rfl⟩ : ∃ c, a = some c := by
        cases a with
        | none => exact absurd (HN.out rfl) (by omega)
        | some c => exact ⟨c, rfl⟩
      obtain ⟨h0, h1, h2⟩ := HC.out c rfl k hlen
      have x0 := cell_later HP.out.below h0
      have x1 := cell_later HP.out.below h1
      have x2 := cell_later HP.out.below h2
      have HZ := Lib.hid (Zs_succ z k)
      generalize z k = x at x0 x1 x2 HZ
      rw [add_next' c _ 1 (by decide)] at x1
      rw [add_next' c _ 2 (by decide)] at x2
      have hga : wr.grownBy (wr.alloc (.cells #[.int .i64 x.w, .int .u64 x.o, .int .i64 x.g] 24)) none := World.grownBy_alloc _ _ _
      have hX : (wr.alloc (.cells #[.int .i64 x.w, .int .u64 x.o, .int .i64 x.g] 24)).heap[wr.heap.size]? = some (.cells x.cells 24 (0, 0)) := heap_alloc_new _ _
      have HA := Lib.hid (And.intro (HP.out.none hga) hX)
      have hAs := HP.out.ha.lt
      have hAb := HP.out.ab
      have hAB := HP.out.hb.lt
      clear h0 h1 h2 hga hX
      go_wp2_with fail
      clear x0 x1 x2
      have hXs : wr.heap.size < (wr.alloc (.cells #[.int .i64 x.w, .int .u64 x.o, .int .i64 x.g] 24)).heap.size := by simp
      have HOW : Hid (∀ j, va.ownBlock = some j → j < wr.heap.size) := Lib.hid fun j hj => (HP.out.ha.ownlt j hj).1
      have HOV : Hid (∀ j, vb.ownBlock = some j → j < wr.heap.size) := Lib.hid fun j hj => (HP.out.hb.ownlt j hj).1
      clear HP
      generalize (wr.alloc (.cells #[.int .i64 x.w, .int .u64 x.o, .int .i64 x.g] 24)) = W1 at *
      refine (put_is HA.out.1.ha HA.out.1.size.1 (by have := HEL.out; omega) x).mono ?_
      rintro e w2 ⟨va2, rfl, hp2, hf2⟩
      have hX2 := (hf2.block wr.heap.size hXs (by omega) (fun e => by have := HOW.out _ e; omega)).trans HA.out.2
      have HA2 := Lib.hid (And.intro (HA.out.1.deedA hp2 (put_law HA.out.1.ia x).2 hf2) (And.intro hX2 (put_perm HA.out.1.ia HPA.out x)))
      have hs2 := hf2.size
      have y0 : w2.cell? ⟨wr.heap.size, 0, none⟩ = some (.int .i64 x.w) := cell_of_row _ _ 0 _ _ _ hX2
      have y1 : w2.cell? ⟨wr.heap.size, 1, none⟩ = some (.int .u64 x.o) := cell_of_row _ _ 1 _ _ _ hX2
      have y2 : w2.cell? ⟨wr.heap.size, 2, none⟩ = some (.int .i64 x.g) := cell_of_row _ _ 2 _ _ _ hX2
      clear hp2 hf2 hX2
      by_cases hg : x.g = g
      · have b1 : (x.g == g) = true := by simpa using hg
        have HK := Lib.hid (show keepG g (Zs z (k + 1)) = keepG g (Zs z k) by rw [HZ.out, keepG_snoc_no hg])
        clear hg
        go_wp2_with fail
        go_roundw
        case rel => exact ⟨k + 1, m + 1, va2, vb, _, eb, by omega, by go_num, by go_num, by have := HM.out; omega, by rw [HZ.out]; exact HA2.out.2.2, by rw [HK.out]; exact HPB.out, HA2.out.1⟩
        case measure => simp [intOf]; omega
      · have b1 : (x.g == g) = false := by simpa using hg
        have HK := Lib.hid (show keepG g (Zs z (k + 1)) = keepG g (Zs z k) ++ [x] by rw [HZ.out, keepG_snoc_yes hg])
        clear hg
        go_wp2_with fail
        refine (put_is HA2.out.1.hb HA2.out.1.size.1 (by omega) x).mono ?_
        rintro e w3 ⟨vb3, rfl, hp3, hf3⟩
        have HA3 := Lib.hid (And.intro (HA2.out.1.deedB hp3 (put_law HA2.out.1.ib x).2 hf3) (And.intro (put_perm HA2.out.1.ib HPB.out x) (put_law HA2.out.1.ib x).1.length_eq))
        clear hp3 hf3 y0 y1 y2
        go_wp2_with fail
        go_roundw
        case rel => exact ⟨k + 1, m, va2, vb3, _, _, by omega, by go_num, rfl, by have h1 := HM.out; have h2 := HA3.out.2.2; simp only [List.length_cons] at h2; omega, by rw [HZ.out]; exact HA2.out.2.2, by rw [HK.out]; exact HA3.out.2.1, HA3.out.1⟩
        case measure => simp [intOf]; omega
    · obtain rfl : k = len := by omega
      have hke : (keepG g ea).Perm (keepG g (Zs z k)) := keepG_perm HPA.out
      have hkl : (keepG g ea).length = eb.length := by rw [hke.length_eq, HPB.out.length_eq]
      have HKE := Lib.hid (And.intro hke hkl)
      clear hke hkl
      go_wp2_with fail
      refine (remove_x HP.out.ha HP.out.size.1 (by have := HEL.out; omega) g (m := m) (by have := HEL.out; have := HKE.out.2; have := HM.out; omega)).mono ?_
      rintro e w2 ⟨va2, ea2, rfl, hp2, hq2, hh2, hf2⟩
      have P2 := Lib.hid (HP.out.deedA hp2 hh2 hf2)
      have hq2' : ea2.Perm (keepG g (Zs z k)) := hq2.trans HKE.out.1
      have hkk : keepG g ea2 = ea2 := by
        refine keepG_all (fun y hy => keepG_mem (g := g) (es := Zs z k) ((hq2'.mem_iff).1 hy))
      have H2 := Lib.hid (And.intro hq2' hkk)
      have hl2 : ea2.length = eb.length := by rw [hq2'.length_eq, HPB.out.length_eq]
      have HL2 := Lib.hid hl2
      clear hp2 hq2 hh2 hf2 hq2' hkk hl2
      go_wp2_with fail
      refine (remove_x P2.out.ha P2.out.size.1 (by have := HL2.out; omega) g (m := 0) (by rw [H2.out.2]; omega)).mono ?_
      rintro e w3 ⟨va3, ea3, rfl, hp3, hq3, hh3, hf3⟩
      rw [H2.out.2] at hq3
      have P3 := Lib.hid (P2.out.deedA hp3 hh3 hf3)
      have H3 := Lib.hid (And.intro (hq3.trans H2.out.1) (hq3.length_eq.trans HL2.out))
      clear hp3 hq3 hh3 hf3
      go_wp2_with fail
      refine (len_x P3.out.ha (by have := H3.out.2; omega) H3.out.2).mono ?_
      rintro e w4 ⟨rfl, rfl⟩
      go_wp2_with fail
      refine (len_x P3.out.hb (by omega) rfl).mono ?_
      rintro e w4 ⟨rfl, rfl⟩
      obtain ⟨L, hL⟩ : ∃ L, srt (keepG g (Zs z k)) = L := ⟨_, rfl⟩
      have hLA : srt ea3 = L := by rw [← hL]; exact srt_eq H3.out.1
      have hLB : srt eb = L := by rw [← hL]; exact srt_eq HPB.out
      have hLl : L.length ≤ 60 := by rw [← hLB, srt_len]; omega
      have hLg : ∀ x ∈ L, x.g ≠ g := fun x hx => by rw [← hL] at hx; exact keepG_mem (((srt_perm _).mem_iff).1 hx)
      have HLA := Lib.hid (And.intro hLA (And.intro hLB hLg))
      clear hL hLA hLB hLg
      go_wp2_with fail
      refine (sorted_x P3.out.ha (by have := H3.out.2; omega) HLA.out.1).mono ?_
      rintro e w5 ⟨a5, c5, rfl, hs5, hb5⟩
      have P5 := Lib.hid (P3.out.none ⟨hb5.os, hb5.tape, hb5.output, hb5.size, fun j hj _ => hb5.block j hj⟩)
      have HS5 := Lib.hid hs5
      clear hs5 hb5
      go_wp2_with fail
      refine (sorted_x P5.out.hb (by omega) HLA.out.2.1).mono ?_
      rintro e w6 ⟨a6, c6, rfl, hs6, hb6⟩
      have HS6 := Lib.hid (And.intro (HS5.out.below hb6) (And.intro hs6 (P5.out.below.trans (hb6.mono P5.out.below.size))))
      clear hs6 hb6 P3 P5 HS5
      go_wp2_with fail
      go_loopw [56] (fun q wr => ∃ j : Nat, j ≤ L.length ∧ q = .int .i64 j ∧ ∃ n, wr = w6.drewN n) (fun q _ => L.length - (intOf q).toNat)
      case atStart => exact ⟨0, Nat.zero_le _, rfl, 0, rfl⟩
      case round =>
        obtain ⟨j, hj, rfl, n, rfl⟩ := hrel
        by_cases hjl : j < L.length
        · obtain ⟨x, hx⟩ : ∃ x, L[j]? = some x := ⟨_, List.getElem?_eq_getElem hjl⟩
          have hxg := HLA.out.2.2 x (List.mem_of_getElem? hx)
          obtain ⟨_, _, e1, hc1, _, h1⟩ := HS6.out.1
          cases e1
          obtain ⟨g1, rfl, p0, p1, p2⟩ := h1 j x hx
          obtain ⟨_, _, e2, hc2, _, h2⟩ := HS6.out.2.1
          cases e2
          obtain ⟨g2, rfl, q0, q1, q2⟩ := h2 j x hx
          have b1 : (x.g == g) = false := by simpa using hxg
          have hneq : ∀ W, (binOp .neq 24 (.agg #[.int .i64 x.w, .int .u64 x.o, .int .i64 x.g]) (.agg #[.int .i64 x.w, .int .u64 x.o, .int .i64 x.g])).run Try.prog W = .ok (.bool false) W := fun W => by have := neq_ent x x W; simpa using this
          have hji : (j : Int) < (L.length : Int) := by omega
          have hj0 : (0 : Int) ≤ (j : Int) := by omega
          clear hx hxg h1 h2
          go_wp2_with fail
          go_quiet (fail)
          go_wp2_with fail
          go_roundw
          case rel => exact ⟨j + 1, by omega, by go_num, n + nq, by simp [World.drewN, Nat.add_assoc]⟩
          case measure => simp [intOf]; omega
        · obtain rfl : j = L.length := by omega
          go_wp2_with fail
          go_ret
          exact ⟨rfl, HS6.out.2.2.os, HS6.out.2.2.tape, HS6.out.2.2.output, HS6.out.2.2.size, HS6.out.2.2.block⟩

set_option maxRecDepth 100000 in
set_option maxHeartbeats 1000000 in
theorem removes_long (a : Option Addr) (len cap : Nat) (g : Int) (w : World) (hl : 60 < len) (hm : len ≤ maxLen) :
    Calls Try.prog 5 #[.slice a len cap, .int .i64 g] w fun e w' => e = .returned (.bool true) ∧ Below w.heap.size w w' := by
  unfold maxLen at hm
  go_enter Try.func5, Try.ntmps5
  go_wp2_with fail
  refine (lives_is w).mono ?_
  rintro e w0 ⟨rfl, hb⟩
  have HB := Lib.hid hb
  clear hb
  go_wp2_with fail
  refine (lives_is w0).mono ?_
  rintro e w1 ⟨rfl, hb⟩
  have HB1 := Lib.hid hb
  clear hb
  go_wp2_with fail
  go_ret
  exact ⟨rfl, HB.out.trans (HB1.out.mono HB.out.size)⟩

theorem removes_any (a : Option Addr) (len cap : Nat) (g : Int) (w : World) (ha : Args.IsFlat [.i64, .u64, .i64] w a len) :
    Calls Try.prog 5 #[.slice a len cap, .int .i64 g] w fun e w' => e = .returned (.bool true) ∧ Below w.heap.size w w' := by
  obtain ⟨hm, hnil, f, hf⟩ := ha
  by_cases hl : 60 < len
  · exact removes_long a len cap g w hl hm
  · refine removes_short a len cap (fun i => ⟨(f i).getD 0 0, (f i).getD 1 0, (f i).getD 2 0⟩) g w (by omega) hnil (fun b hb i hi => ?_)
    obtain ⟨x, y, z, e, _⟩ := Args.fits3 (hf i hi).1
    have h := (hf i hi).2 b hb
    rw [e] at h
    have h0 := (h 0 (.int .i64 x) rfl).1
    have h1 := (h 1 (.int .u64 y) rfl).1
    have h2 := (h 2 (.int .i64 z) rfl).1
    simp only [e, List.getD_cons_zero, List.getD_cons_succ]
    exact ⟨h0, h1, h2⟩
end Go.Proofs.Ytlnbjnkmhabdaaa.Hp
