/-
  Package poll: what asks: Len, full, Has, Is, Who.
-/
import Derived.Test.YtefpbfdbpckcmaaPollBase
namespace Go.Proofs.Ytefpbfdbpckcmaa.Pl
open Go.RowKit
set_option linter.unusedVariables false
set_option linter.unusedSimpArgs false

abbrev TP : TypeId := 61
abbrev TS : TypeId := 63
abbrev u16 (x : Int) : Value := .int .u16 x
/-- A poll at block pb: its two maps, in blocks fb and wb. -/
structure IsPl (w : World) (base pb fb wb : Nat) (F : List (Int × St)) (G : List (Int × Int)) : Prop where
  cells : w.heap[pb]? = some (.cells #[.map (some fb), .map (some wb)] TP (0, 0))
  fds : MapU.IsMap w fb (enc St.val F)
  who : MapI.IsMap w wb (enc u16 G)
  apart : pb ≠ fb ∧ pb ≠ wb ∧ fb ≠ wb
  low : base ≤ pb ∧ base ≤ fb ∧ base ≤ wb
section
variable {w : World} {base pb fb wb : Nat} {F : List (Int × St)} {G : List (Int × Int)}
theorem IsPl.c0 (h : IsPl w base pb fb wb F G) : w.cell? ⟨pb, 0, none⟩ = some (.map (some fb)) := cell_of_row _ _ 0 _ _ _ h.cells
theorem IsPl.c1 (h : IsPl w base pb fb wb F G) : w.cell? ⟨pb, 1, none⟩ = some (.map (some wb)) := cell_of_row _ _ 1 _ _ _ h.cells
theorem IsPl.lt (h : IsPl w base pb fb wb F G) : pb < w.heap.size ∧ fb < w.heap.size ∧ wb < w.heap.size := ⟨(Array.getElem?_eq_some_iff.1 h.cells).1, h.fds.lt, h.who.lt⟩
theorem IsPl.kept {w' : World} (h : IsPl w base pb fb wb F G) (h1 : w'.heap[pb]? = w.heap[pb]?) (h2 : w'.heap[fb]? = w.heap[fb]?) (h3 : w'.heap[wb]? = w.heap[wb]?) : IsPl w' base pb fb wb F G :=
  ⟨h1.trans h.cells, h.fds.heap h2, h.who.heap h3, h.apart, h.low⟩
theorem IsPl.grown {w' : World} (h : IsPl w base pb fb wb F G) (hg : w.grownBy w' none) : IsPl w' base pb fb wb F G :=
  h.kept (hg.block _ h.lt.1 (by simp)) (hg.block _ h.lt.2.1 (by simp)) (hg.block _ h.lt.2.2 (by simp))
theorem IsPl.nodup (h : IsPl w base pb fb wb F G) : (F.map (·.1)).Nodup := by have := h.fds.nodup; rwa [enc_keys] at this
theorem IsPl.nodupG (h : IsPl w base pb fb wb F G) : (G.map (·.1)).Nodup := by have := h.who.nodup; rwa [enc_keys] at this
theorem zeroS (w : World) : (zeroValue TS).run Try.prog w = .ok St.zero.val w := by kernel_rfl
theorem zeroN (w : World) : (zeroValue 27).run Try.prog w = .ok (.int .u16 0) w := by kernel_rfl
/-- What is known of a descriptor. -/
def stOf (F : List (Int × St)) (fd : Int) : St := (alook F fd).getD .zero
theorem look_st (F : List (Int × St)) (fd : Int) : (MapU.look (enc St.val F) fd).getD St.zero.val = (stOf F fd).val := by
  rw [enc_lookU]; unfold stOf; cases alook F fd <;> rfl
theorem grown_none {a b c : World} (h : a.grownBy b none) (k : b.grownBy c none) : a.grownBy c none :=
  ⟨k.os.trans h.os, k.tape.trans h.tape, k.output.trans h.output, Nat.le_trans h.size k.size, fun j hj hne => (k.block j (Nat.lt_of_lt_of_le hj h.size) hne).trans (h.block j hj hne)⟩

theorem plen_is (h : IsPl w base pb fb wb F G) : Calls Try.prog 13 #[.pointer (some ⟨pb, 0, none⟩)] w fun e w' => e = .returned (.int .i64 F.length) ∧ w = w' := by
  have c0 := h.c0
  have hln : ∀ ty, (Builtin.len_ #[58] ty #[.map (some fb)]).run Try.prog w = .ok (.int .i64 F.length) w := fun ty => by
    have := MapU.run_len h.fds Try.underlying58 _ ty rfl
    rwa [enc_len] at this
  clear h
  go_enter Try.func13, Try.ntmps13
  go_wp2
  go_ret
  exact ⟨rfl, rfl⟩
theorem phas_is (h : IsPl w base pb fb wb F G) (g : Int) : Calls Try.prog 20 #[.pointer (some ⟨pb, 0, none⟩), .int .i64 g] w fun e w' => e = .returned (.bool (alook G g).isSome) ∧ w = w' := by
  have c1 := h.c1
  have HM := Lib.hid h.who
  obtain ⟨r, hr⟩ : ∃ r, (alook G g).isSome = r := ⟨_, rfl⟩
  have hl : (MapI.look (enc u16 G) g).isSome = r := by rw [enc_look, ← hr]; cases alook G g <;> rfl
  obtain ⟨v, hv⟩ : ∃ v, (MapI.look (enc u16 G) g).getD (.int .u16 0) = .int .u16 v := by
    rw [enc_look]; cases alook G g with
    | none => exact ⟨0, rfl⟩
    | some x => exact ⟨x, rfl⟩
  have HL := Lib.hid (And.intro hl hv)
  rw [hr]
  clear h hr hl hv
  go_enter Try.func20, Try.ntmps20
  go_wp2_with (at_lookup; refine MapI.wpList_lookok rfl _ _ 59 3 27 rfl Try.underlying59 Try.underlying3 HM.out rfl g rfl (zeroN _) (.int .u16 v) HL.out.2 r HL.out.1 ?_)
  go_ret
  exact ⟨rfl, rfl⟩
set_option maxHeartbeats 1000000 in
theorem pfull_is (h : IsPl w base pb fb wb F G) (fd : Int) : Calls Try.prog 25 #[.pointer (some ⟨pb, 0, none⟩), .int .u16 fd] w fun e w' => e = .returned (.bool (!(alook F fd).isSome && decide (1024 ≤ F.length))) ∧ w.grownBy w' none := by
  have c0 := h.c0
  have hlt := h.lt.1
  have HM := Lib.hid h.fds
  obtain ⟨n, hn⟩ : ∃ n, F.length = n := ⟨_, rfl⟩
  have hln : ∀ W ty, W.heap[fb]? = w.heap[fb]? → (Builtin.len_ #[58] ty #[.map (some fb)]).run Try.prog W = .ok (.int .i64 n) W := fun W ty e => by
    have := MapU.run_len (h.fds.heap e) Try.underlying58 _ ty rfl
    rwa [enc_len, hn] at this
  have hln2 : ∀ ty, (Builtin.len_ #[58] ty #[.map (some fb)]).run Try.prog (w.alloc (.cells #[.int .i64 (stOf F fd).g, .bool (stOf F fd).waits, .bool (stOf F fd).ready] TS)) = .ok (.int .i64 n) (w.alloc (.cells #[.int .i64 (stOf F fd).g, .bool (stOf F fd).waits, .bool (stOf F fd).ready] TS)) := fun ty => hln _ ty (heap_alloc_old _ _ h.lt.2.1)
  obtain ⟨r, hr⟩ : ∃ r, (alook F fd).isSome = r := ⟨_, rfl⟩
  have hl : (MapU.look (enc St.val F) fd).isSome = r := by rw [enc_lookU, ← hr]; cases alook F fd <;> rfl
  have hv := look_st F fd
  have HL := Lib.hid (And.intro hl hv)
  rw [hr, hn]
  generalize stOf F fd = s at *
  obtain ⟨sg, sw, sr⟩ := s
  clear h hr hl hv hln hn
  cases r with
  | true =>
    go_enter Try.func25, Try.ntmps25
    go_wp2_with (at_lookup; refine MapU.wpList_lookok rfl _ _ 58 27 TS rfl Try.underlying58 Try.underlying27 HM.out rfl fd rfl (zeroS _) (St.val ⟨sg, sw, sr⟩) HL.out.2 true HL.out.1 ?_; unfold St.val)
    go_ret
    exact ⟨rfl, World.grownBy_alloc _ _ _⟩
  | false =>
    go_enter Try.func25, Try.ntmps25
    go_wp2_with (at_lookup; refine MapU.wpList_lookok rfl _ _ 58 27 TS rfl Try.underlying58 Try.underlying27 HM.out rfl fd rfl (zeroS _) (St.val ⟨sg, sw, sr⟩) HL.out.2 false HL.out.1 ?_; unfold St.val)
    go_ret
    exact ⟨by simp; omega, World.grownBy_alloc _ _ _⟩

set_option maxRecDepth 100000 in
set_option maxHeartbeats 1000000 in
theorem pis_is (h : IsPl w base pb fb wb F G) (fd : Int) : Calls Try.prog 14 #[.pointer (some ⟨pb, 0, none⟩), .int .u16 fd] w fun e w' => e = .returned (.bool (stOf F fd).ready) ∧ w = w' := by
  have c0 := h.c0
  have HM := Lib.hid h.fds
  have HL := Lib.hid (look_st F fd)
  generalize stOf F fd = s at *
  obtain ⟨sg, sw, sr⟩ := s
  have hfd : ∀ W, (Instr.field TS (.agg #[.int .i64 sg, .bool sw, .bool sr]) 2).run Try.prog W = .ok (.bool sr) W := fun _ => by kernel_rfl
  clear h
  go_enter Try.func14, Try.ntmps14
  go_wp2_with (at_lookup; refine MapU.wpList_look rfl _ _ 58 27 TS rfl Try.underlying58 Try.underlying27 HM.out rfl fd rfl (zeroS _) (St.val ⟨sg, sw, sr⟩) HL.out ?_; unfold St.val)
  go_ret
  exact ⟨rfl, rfl⟩
set_option maxRecDepth 100000 in
set_option maxHeartbeats 1000000 in
theorem pwho_is (h : IsPl w base pb fb wb F G) (fd : Int) : Calls Try.prog 22 #[.pointer (some ⟨pb, 0, none⟩), .int .u16 fd] w fun e w' => e = .returned (.tuple #[.int .i64 (stOf F fd).g, .bool (stOf F fd).waits]) ∧ w.grownBy w' none := by
  have c0 := h.c0
  have HM := Lib.hid h.fds
  have HL := Lib.hid (look_st F fd)
  generalize stOf F fd = s at *
  obtain ⟨sg, sw, sr⟩ := s
  clear h
  go_enter Try.func22, Try.ntmps22
  go_wp2_with (at_lookup; refine MapU.wpList_look rfl _ _ 58 27 TS rfl Try.underlying58 Try.underlying27 HM.out rfl fd rfl (zeroS _) (St.val ⟨sg, sw, sr⟩) HL.out ?_; unfold St.val)
  have hg := Lib.hid (World.grownBy_alloc w (.cells #[.int .i64 sg, .bool sw, .bool sr] TS) none)
  have hb := heap_alloc_new w (.cells #[.int .i64 sg, .bool sw, .bool sr] TS)
  generalize w.alloc (.cells #[.int .i64 sg, .bool sw, .bool sr] TS) = W at *
  have d0 : W.cell? ⟨w.heap.size, 0, none⟩ = some (.int .i64 sg) := cell_of_row _ _ 0 _ _ _ hb
  have d1 : W.cell? ⟨w.heap.size, 1, none⟩ = some (.bool sw) := cell_of_row _ _ 1 _ _ _ hb
  clear hb
  go_quiet (fail)
  go_wp2
  go_ret2
  exact ⟨rfl, hg.out.os, hg.out.tape, hg.out.output, hg.out.size, hg.out.block⟩
/-- Is somebody due? -/
def dueL (F : List (Int × St)) : Bool := F.any fun p => p.2.waits && p.2.ready
set_option maxRecDepth 100000 in
set_option maxHeartbeats 2000000 in
theorem pdue_is (h : IsPl w base pb fb wb F G) : Calls Try.prog 12 #[.pointer (some ⟨pb, 0, none⟩)] w fun e w' => e = .returned (.bool (dueL F)) ∧ w.grownBy w' none := by
  have c0 := h.c0
  have H := Lib.hid h
  have hmm := h.fds
  clear h
  go_enter Try.func12, Try.ntmps12
  go_wp2_with (at_range; refine MapU.wpList_range rfl _ 58 27 TS rfl Try.underlying58 hmm rfl ?_; intro w0 hrg0 hg0 hs0)
  go_frame
  have H0 := Lib.hid (And.intro hrg0 hg0)
  clear hrg0 hg0 hs0 hmm c0
  go_loopw [4] (fun _ wr => ∃ (rest : List (Int × Value)), MapU.Ran wr fb w.heap.size (enc St.val F) rest ∧ (∀ p ∈ F, (p.1, St.val p.2) ∉ rest → (p.2.waits && p.2.ready) = false) ∧ w.grownBy wr none) (fun _ wr => wr.rangeLeft fb w.heap.size)
  case atStart => exact ⟨_, H0.out.1, fun p hp hn => absurd (List.mem_map.2 ⟨p, hp, rfl⟩) hn, H0.out.2⟩
  case round =>
    clear H0
    obtain ⟨rest, hrg, hno, hg⟩ := hrel
    have HR := Lib.hid (And.intro hno hg)
    clear hno hg
    go_wp2_with (at_next; refine MapU.wpList_next rfl _ rfl rfl hrg ?_ ?_)
    · intro hr0
      have hd : dueL F = false := by
        unfold dueL
        rw [List.any_eq_false]
        intro p hp
        have := HR.out.1 p hp (by rw [hr0]; simp)
        simpa using this
      have HD := Lib.hid hd
      clear hd hr0
      go_wp2
      go_ret
      exact ⟨by rw [HD.out]; rfl, HR.out.2⟩
    · intro k v w2 hkv hrg2 hg2 hs2 hen
      obtain ⟨p, hp, he⟩ := List.mem_map.1 (hrg.sub hkv)
      obtain ⟨pk, s⟩ := p
      obtain rfl : pk = k := congrArg Prod.fst he
      have hv : v = St.val s := (congrArg Prod.snd he).symm
      subst hv
      have HH := Lib.hid (And.intro hkv (And.intro hrg (And.intro hrg2 (And.intro hg2 hp))))
      have hgw : w.grownBy w2 none := ⟨hg2.os.trans HR.out.2.os, hg2.tape.trans HR.out.2.tape, hg2.output.trans HR.out.2.output, Nat.le_trans HR.out.2.size hg2.size, fun j hj hne => (hg2.block j (Nat.lt_of_lt_of_le hj HR.out.2.size) (fun e => by have := Option.some.inj e; omega)).trans (HR.out.2.block j hj hne)⟩
      have HW := Lib.hid hgw
      clear hkv hrg hrg2 hg2 hp he hgw
      obtain ⟨sg, sw, sr⟩ := s
      unfold St.val at hen ⊢
      have HA := Lib.hid (World.grownBy_alloc w2 (.cells #[.int .i64 sg, .bool sw, .bool sr] TS) none)
      have hal := heap_alloc_new w2 (.cells #[.int .i64 sg, .bool sw, .bool sr] TS)
      have hR3 : Hid (MapU.Ran (w2.alloc (.cells #[.int .i64 sg, .bool sw, .bool sr] TS)) fb w.heap.size (enc St.val F) (rest.filter fun p => !decide (p.1 = pk))) := Lib.hid (HH.out.2.2.1.kept (heap_alloc_old _ _ HH.out.2.2.1.lt.1) (heap_alloc_old _ _ HH.out.2.2.1.lt.2))
      have HB := Lib.hid hal
      clear hal
      have hno2 : (sw && sr) = false → ∀ p ∈ F, (p.1, St.val p.2) ∉ (rest.filter fun p => !decide (p.1 = pk)) → (p.2.waits && p.2.ready) = false := fun hs p hp hn => by
        by_cases hpk : p.1 = pk
        · have e1 := alook_mem H.out.nodup (show (p.1, p.2) ∈ F from hp)
          have e2 := alook_mem H.out.nodup HH.out.2.2.2.2
          rw [hpk, e2] at e1
          rw [← Option.some.inj e1]; exact hs
        · exact HR.out.1 p hp (fun hm => hn (List.mem_filter.2 ⟨hm, by simpa using hpk⟩))
      have HN := Lib.hid hno2
      have hms : (wr.rangeLeft fb w.heap.size) = rest.length := HH.out.2.1.left_eq
      have HM := Lib.hid hms
      have HL : Hid ((rest.filter fun p => !decide (p.1 = pk)).length < rest.length) := Lib.hid (List.length_filter_lt_length_iff_exists.2 ⟨_, HH.out.1, by simp⟩)
      clear hno2 hms hs2
      cases sw <;> cases sr
      · go_wp2_with fail
        go_roundw
        case rel => exact ⟨_, hR3.out, HN.out rfl, grown_none HW.out HA.out⟩
        case measure => rw [hR3.out.left_eq, HM.out]; exact HL.out
      · go_wp2_with fail
        go_roundw
        case rel => exact ⟨_, hR3.out, HN.out rfl, grown_none HW.out HA.out⟩
        case measure => rw [hR3.out.left_eq, HM.out]; exact HL.out
      · go_wp2_with fail
        go_roundw
        case rel => exact ⟨_, hR3.out, HN.out rfl, grown_none HW.out HA.out⟩
        case measure => rw [hR3.out.left_eq, HM.out]; exact HL.out
      · have hd : dueL F = true := List.any_eq_true.2 ⟨_, HH.out.2.2.2.2, rfl⟩
        have HD := Lib.hid hd
        clear hd
        go_wp2_with fail
        refine bodyPost_ret (results_tmp rfl _ _ _) rfl ?_
        exact ⟨by rw [HD.out]; rfl, grown_none HW.out HA.out⟩
end
end Go.Proofs.Ytefpbfdbpckcmaa.Pl
