/- Proves the parts of the claim that its last text joins: Keep6, Pre, Board9. Conditions: those that each theorem names. -/
import Derived.Test.YtjpbjghdplbdcaaGreatDoorM13
import Derived.Test.YtjpbjghdplbdcaaGreatDoorM22
import Derived.Test.YtjpbjghdplbdcaaGreatDoorM36
import Derived.Test.YtjpbjghdplbdcaaGreatDoorProg
import Derived.Test.YtjpbjghdplbdcaaGreatDoorM10
import Derived.Test.YtjpbjghdplbdcaaGreatDoorM01
import Derived.WalkKit
import Derived.WalkSpells
import Derived.Laws.Cover1
import Derived.Laws.Strings
section
namespace Go.Proofs.YtjpbjghdplbdcaaGreatDoor
open Go.RowKit Go.Shelf
set_option linter.unusedVariables false
section
variable {w : World} {g bd bx b : Nat} {s : DSt} {p : ByteArray} {x y : Int}
set_option maxRecDepth 100000 in
set_option maxHeartbeats 6400000 in
theorem keep6_any (hL : LibW b w) (hb : b ≤ g) (hD : DeskAt w g s) (hO : DOk s) (hp : p.size ≤ 9223372036854775807)
    (bD : Blk w bd 39 #[.pointer (some ⟨g, 0, none⟩)]) (bbx : Blk w bx 132 #[.string p, .int .i64 x, .int .i64 y]) :
    Calls Tryz.prog 196 #[.pointer (some ⟨bd, 0, none⟩), .pointer (some ⟨bx, 0, none⟩)] w fun e w' => Did w g (ruleS s p x y) e w' := by
  have HL := hide hL
  have HO := hide hO
  have HD := hide hD
  have HN := hide (ruleS_ok hO p x y)
  obtain ⟨Ac, nc, cc, Ar, nr, cr, Ai, ni, ci, An, nn, cn, hg, ⟨h1, o1⟩, ⟨h2, o2⟩, ⟨h3, o3⟩, ⟨h4, o4⟩⟩ := hD
  have hgl := hg.lt
  have CP := hide (fun w' (hb : Below w.heap.size w w') => bput_own (h2.on hb) HO.out.rules p x y hp)
  have CS := hide (show ruleS s p x y = if (putOut (p, x, y) s.rules).1 = 0 then (0, { s with rules := (putOut (p, x, y) s.rules).2 }, [111, 107]) else ((putOut (p, x, y) s.rules).1, s, []) from rfl)
  obtain ⟨E, zs, hEz⟩ : ∃ E zs, putOut (p, x, y) s.rules = (E, zs) := ⟨_, _, rfl⟩
  rw [hEz] at CP CS
  dsimp only at CP CS
  obtain ⟨R, hR⟩ : ∃ R, ruleS s p x y = R := ⟨_, rfl⟩
  rw [hR] at HN CS ⊢
  clear hEz hR
  have ad := bD.at_ (i := 0) (u := .pointer (some ⟨g, 0, none⟩)) rfl
  have abx0 := bbx.at_ (i := 0) (u := .string p) rfl
  have abx1 := bbx.at_ (i := 1) (u := .int .i64 x) rfl
  have abx2 := bbx.at_ (i := 2) (u := .int .i64 y) rfl
  have a3 := hg.at_ (i := 3) (u := .slice Ar nr cr) rfl
  have hbw : b ≤ w.heap.size := by omega
  clear hL hO
  go_enter Tryz.func196, Tryz.ntmps196
  go_wp2_with fail
  refine anyTill.begin (S := Till (fun w' => w'.cell? ⟨bd, 0, none⟩ = some (.pointer (some ⟨g, 0, none⟩)) ∧ w'.cell? ⟨bx, 0, none⟩ = some (.string p) ∧ w'.cell? ⟨bx, 1, none⟩ = some (.int .i64 x) ∧ w'.cell? ⟨bx, 2, none⟩ = some (.int .i64 y) ∧ w'.cell? ⟨g, 3, none⟩ = some (.slice Ar nr cr)) (fun _ => True) []) (by kernel_rfl) ?_
  refine anyTill.last (i := 0) (oi := { dst := some 6, op := Op.load 39 (Operand.tmp 0), type := 39, pos := "desk.go:225", after := #[], guard := none }) (v := ?_) rfl (by kernel_rfl) (by kernel_rfl) (by kernel_rfl) (fun _ _ _ h => h) (by rfl) (Or.inl ⟨by rfl, ?_⟩) ⟨by (refine ⟨kept (B := w.heap.size) (p := ⟨bd, 0, none⟩) (bD.lt) ad ?_, kept (B := w.heap.size) (p := ⟨bx, 0, none⟩) (bbx.lt) abx0 ?_, kept (B := w.heap.size) (p := ⟨bx, 1, none⟩) (bbx.lt) abx1 ?_, kept (B := w.heap.size) (p := ⟨bx, 2, none⟩) (bbx.lt) abx2 ?_, kept (B := w.heap.size) (p := ⟨g, 3, none⟩) (hgl) a3 ?_⟩ <;> repeat' (first | assumption | with_reducible exact Below.refl _ _ | with_reducible apply Below.drew | with_reducible apply below_drewN | with_reducible apply below_alloc | with_reducible refine below_set ?_ ?_ _ | (simp only [World.size_alloc, World.heap_drewN]; omega) | (simp; omega))), fun _ => by trivial⟩ (fun hS => ?_)
  rotate_left
  · (intro w hSw; (try dsimp only at hSw); go_split_ands; go_simp; try with_reducible rfl)
  try simp only [Act.put, List.setIfInBounds_toArray, List.set_cons_zero, List.set_cons_succ]
  refine anyTill.last (i := 1) (oi := { dst := some 7, op := Op.nilCheck (Operand.tmp 6), type := 0, pos := "desk.go:225", after := #[{ on := 0, ground := Ground.data }], guard := none }) (v := ?_) rfl (by kernel_rfl) (by kernel_rfl) (by kernel_rfl) (fun _ _ _ h => h) (by rfl) (Or.inl ⟨by rfl, ?_⟩) hS (fun hS => ?_)
  rotate_left
  · (intro w hSw; (try dsimp only at hSw); go_split_ands; go_simp; try with_reducible rfl)
  try simp only [Act.put, List.setIfInBounds_toArray, List.set_cons_zero, List.set_cons_succ]
  refine anyTill.last (i := 2) (oi := { dst := some 8, op := Op.fieldAddr 50 (Operand.tmp 7) 1, type := 0, pos := "desk.go:225", after := #[{ on := 1, ground := Ground.data }], guard := none }) (v := ?_) rfl (by kernel_rfl) (by kernel_rfl) (by kernel_rfl) (fun _ _ _ h => h) (by rfl) (Or.inl ⟨by rfl, ?_⟩) hS (fun hS => ?_)
  rotate_left
  · (intro w hSw; (try dsimp only at hSw); go_split_ands; go_simp; try with_reducible rfl)
  try simp only [Act.put, List.setIfInBounds_toArray, List.set_cons_zero, List.set_cons_succ]
  refine anyTill.last (i := 3) (oi := { dst := some 9, op := Op.load 48 (Operand.tmp 8), type := 48, pos := "desk.go:225", after := #[{ on := 2, ground := Ground.data }], guard := none }) (v := ?_) rfl (by kernel_rfl) (by kernel_rfl) (by kernel_rfl) (fun _ _ _ h => h) (by rfl) (Or.inl ⟨by rfl, ?_⟩) hS (fun hS => ?_)
  rotate_left
  · (intro w hSw; (try dsimp only at hSw); go_split_ands; go_simp; try with_reducible rfl)
  try simp only [Act.put, List.setIfInBounds_toArray, List.set_cons_zero, List.set_cons_succ]
  refine anyTill.last (i := 4) (oi := { dst := some 10, op := Op.load 132 (Operand.tmp 1), type := 132, pos := "desk.go:225", after := #[], guard := none }) (v := ?_) rfl (by kernel_rfl) (by kernel_rfl) (by kernel_rfl) (fun _ _ _ h => h) (by rfl) (Or.inl ⟨by rfl, ?_⟩) hS (fun hS => ?_)
  rotate_left
  · (intro w hSw; (try dsimp only at hSw); go_split_ands; go_simp; try with_reducible rfl)
  try simp only [Act.put, List.setIfInBounds_toArray, List.set_cons_zero, List.set_cons_succ]
  refine anyTill.ready (rs := [5]) (by kernel_rfl) (by simp) ?_
  refine AllTill.cons (o := { dst := some 11, op := Op.call { callee := Callee.value (Operand.func 197), args := #[Operand.tmp 9, Operand.tmp 10], argTypes := #[48, 132] }, type := 129, pos := "desk.go:225", after := #[{ on := 3, ground := Ground.data }, { on := 4, ground := Ground.data }], guard := none }) rfl (fun K hK => ?_) AllTill.nil
  · clear hS
    go_wp2_with fail
    go_at_call 197
    refine (CP.out _ (by repeat' (first | assumption | with_reducible exact Below.refl _ _ | with_reducible apply Below.drew | with_reducible apply below_drewN | with_reducible apply below_alloc | with_reducible refine below_set ?_ ?_ _ | (simp only [World.size_alloc, World.heap_drewN]; omega) | (simp; omega)))).mono ?_
    rintro e w5 ⟨A', n', c', rfl, oR, hb5⟩
    have oR := oR.mono (base' := w.heap.size) (by first | exact Nat.le_refl _ | simp)
    have hb5 : Below w.heap.size w w5 := below_on (by repeat' (first | assumption | with_reducible exact Below.refl _ _ | with_reducible apply Below.drew | with_reducible apply below_drewN | with_reducible apply below_alloc | with_reducible refine below_set ?_ ?_ _ | (simp only [World.size_alloc, World.heap_drewN]; omega) | (simp; omega))) hb5
    refine hK.out _ _ (Till.over (by rfl) (by (refine ⟨kept (B := w.heap.size) (p := ⟨bd, 0, none⟩) (bD.lt) ad ?_, kept (B := w.heap.size) (p := ⟨bx, 0, none⟩) (bbx.lt) abx0 ?_, kept (B := w.heap.size) (p := ⟨bx, 1, none⟩) (bbx.lt) abx1 ?_, kept (B := w.heap.size) (p := ⟨bx, 2, none⟩) (bbx.lt) abx2 ?_, kept (B := w.heap.size) (p := ⟨g, 3, none⟩) (hgl) a3 ?_⟩ <;> repeat' (first | assumption | with_reducible exact Below.refl _ _ | with_reducible apply Below.drew | with_reducible apply below_drewN | with_reducible apply below_alloc | with_reducible refine below_set ?_ ?_ _ | (simp only [World.size_alloc, World.heap_drewN]; omega) | (simp; omega))))) (fun hS => ?_)
    clear hK K
    try simp only [Act.put, List.setIfInBounds_toArray, List.set_cons_zero, List.set_cons_succ]
    refine anyTill.last (i := 6) (oi := { dst := some 5, op := Op.move (Operand.tmp 11), type := 129, pos := "desk.go:225", after := #[{ on := 5, ground := Ground.data }], guard := none }) (v := ?_) rfl (by kernel_rfl) (by kernel_rfl) (by kernel_rfl) (fun _ _ _ h => h) (by rfl) (Or.inl ⟨by rfl, ?_⟩) hS (fun hS => ?_)
    rotate_left
    · (intro w hSw; (try dsimp only at hSw); go_split_ands; go_simp; try with_reducible rfl)
    try simp only [Act.put, List.setIfInBounds_toArray, List.set_cons_zero, List.set_cons_succ]
    refine anyTill.last (i := 7) (oi := { dst := some 12, op := Op.extract (Operand.tmp 5) 0, type := 48, pos := "desk.go:225", after := #[{ on := 6, ground := Ground.data }], guard := none }) (v := ?_) rfl (by kernel_rfl) (by kernel_rfl) (by kernel_rfl) (fun _ _ _ h => h) (by rfl) (Or.inl ⟨by rfl, ?_⟩) hS (fun hS => ?_)
    rotate_left
    · (intro w hSw; (try dsimp only at hSw); go_split_ands; go_simp; try with_reducible rfl)
    try simp only [Act.put, List.setIfInBounds_toArray, List.set_cons_zero, List.set_cons_succ]
    refine anyTill.last (i := 8) (oi := { dst := some 13, op := Op.extract (Operand.tmp 5) 1, type := 64, pos := "desk.go:225", after := #[{ on := 6, ground := Ground.data }, { on := 9, ground := Ground.gcOnly Departure.lateStores }], guard := none }) (v := ?_) rfl (by kernel_rfl) (by kernel_rfl) (by kernel_rfl) (fun _ _ _ h => h) (by rfl) (Or.inl ⟨by rfl, ?_⟩) hS (fun hS => ?_)
    rotate_left
    · (intro w hSw; (try dsimp only at hSw); go_split_ands; go_simp; try with_reducible rfl)
    try simp only [Act.put, List.setIfInBounds_toArray, List.set_cons_zero, List.set_cons_succ]
    refine anyTill.last (i := 9) (oi := { dst := some 3, op := Op.assign (Operand.tmp 12), type := 48, pos := "desk.go:225", after := #[{ on := 7, ground := Ground.data }, { on := 5, ground := Ground.chain }, { on := 0, ground := Ground.phase }, { on := 1, ground := Ground.phase }, { on := 2, ground := Ground.phase }, { on := 3, ground := Ground.phase }, { on := 4, ground := Ground.phase }, { on := 5, ground := Ground.phase }, { on := 6, ground := Ground.phase }, { on := 7, ground := Ground.phase }, { on := 8, ground := Ground.textOnly Departure.lateStores }], guard := none }) (v := ?_) rfl (by kernel_rfl) (by kernel_rfl) (by kernel_rfl) (fun _ _ _ h => h) (by rfl) (Or.inl ⟨by rfl, ?_⟩) hS (fun hS => ?_)
    rotate_left
    · (intro w hSw; (try dsimp only at hSw); go_split_ands; go_simp; try with_reducible rfl)
    try simp only [Act.put, List.setIfInBounds_toArray, List.set_cons_zero, List.set_cons_succ]
    refine anyTill.last (i := 10) (oi := { dst := some 4, op := Op.assign (Operand.tmp 13), type := 64, pos := "desk.go:225", after := #[{ on := 8, ground := Ground.data }, { on := 9, ground := Ground.chain }, { on := 0, ground := Ground.phase }, { on := 1, ground := Ground.phase }, { on := 2, ground := Ground.phase }, { on := 3, ground := Ground.phase }, { on := 4, ground := Ground.phase }, { on := 5, ground := Ground.phase }, { on := 6, ground := Ground.phase }, { on := 7, ground := Ground.phase }, { on := 8, ground := Ground.phase }, { on := 9, ground := Ground.phase }], guard := none }) (v := ?_) rfl (by kernel_rfl) (by kernel_rfl) (by kernel_rfl) (fun _ _ _ h => h) (by rfl) (Or.inl ⟨by rfl, ?_⟩) hS (fun hS => ?_)
    rotate_left
    · (intro w hSw; (try dsimp only at hSw); go_split_ands; go_simp; try with_reducible rfl)
    try simp only [Act.put, List.setIfInBounds_toArray, List.set_cons_zero, List.set_cons_succ]
    refine anyTill.fin (by kernel_rfl) ?_ _
    clear hS
    have bD5 := bD.below hb5 bD.lt
    have hg5 := hg.below hb5 hgl
    clear ad abx0 abx1 abx2 a3
    by_cases hE : E = 0
    · subst hE
      have hR2 := CS.out
      rw [if_pos rfl] at hR2
      subst hR2
      go_wp2_with fail
      refine (must_ok _).mono ?_
      rintro e w6 ⟨rfl, rfl⟩
      have ad := bD5.at_ (i := 0) (u := .pointer (some ⟨g, 0, none⟩)) rfl
      have a3 := hg5.at_ (i := 3) (u := .slice Ar nr cr) rfl
      have f3 := hg5.free 3
      go_wp2_with fail
      go_ret
      have gS : w6.grownBy (w6.setCell ⟨g, 3, none⟩ (.slice A' n' c')) (some g) := gset _ _ _ _
      have bS : Blk (w6.setCell ⟨g, 3, none⟩ (.slice A' n' c')) g DT (deskV s.lost (.slice Ac nc cc) (.slice A' n' c') s.seen (.slice Ai ni ci) (.slice An nn cn)) := by have t := hg5.set 3 (.slice A' n' c'); simpa using t
      exact ⟨gtrans (gbelow hb5 _) gS, DeskAt.mk' gS bS (h1.on hb5) (o1.on hb5) oR.sl (Off.of oR hgl) (h3.on hb5) (o3.on hb5) (h4.on hb5) (o4.on hb5), .inl ⟨rfl, rfl⟩⟩
    · have hR2 := CS.out
      rw [if_neg hE] at hR2
      subst hR2
      go_wp2_with fail
      refine (must_bad hE _).mono ?_
      rintro e w6 ⟨rfl, rfl⟩
      exact ⟨rfl, gbelow hb5 _, HD.out.on hb5, .inr ⟨hE, rfl⟩⟩
end
end Go.Proofs.YtjpbjghdplbdcaaGreatDoor
end
section
namespace Go.Proofs.YtjpbjghdplbdcaaGreatDoor
open Go.RowKit
set_option maxHeartbeats 800000 in
theorem hpre_any (s p : ByteArray) (w : World) : Calls Tryz.prog 12 #[.string s, .string p] w fun e w' => e = .returned (.bool (hasPre s p)) ∧ w = w' := by
  have HI : ∀ w, Calls Tryz.prog 25 #[.string s, .string p] w fun e w' => e = .returned (.bool (hasPre s p)) ∧ w = w' := by
    intro w
    by_cases h : p.size ≤ s.size
    · have HE := hide (show hasPre s p = ((s.extract 0 p.size).toList == p.toList) by unfold hasPre; rw [decide_eq_true h, Bool.true_and])
      go_enter Tryz.func25, Tryz.ntmps25
      go_wp2_with fail
      rw [HE.out]
      go_ret
      exact ⟨rfl, rfl⟩
    · have HE := hide (show hasPre s p = false by unfold hasPre; rw [decide_eq_false h, Bool.false_and])
      go_enter Tryz.func25, Tryz.ntmps25
      go_wp2_with fail
      rw [HE.out]
      go_ret
      exact ⟨rfl, rfl⟩
  go_enter Tryz.func12, Tryz.ntmps12
  go_wp2_with fail
  refine (HI w).mono ?_
  rintro e w1 ⟨rfl, rfl⟩
  go_wp2_with fail
  go_ret
  exact ⟨rfl, rfl⟩
end Go.Proofs.YtjpbjghdplbdcaaGreatDoor
end
section
namespace Go.Proofs.YtjpbjghdplbdcaaGreatDoor
open Go.RowKit Go.Shelf
section
variable {A : Option Addr} {n c : Nat} {l : List Rul} {w : World} {name : ByteArray}
set_option maxRecDepth 20000 in
set_option maxHeartbeats 3200000 in
theorem bask_long (h : Sr w A n c l) (hok : RlOk l) (hl : 200 < name.size) :
    Calls Tryz.prog 199 #[.slice A n c, .string name] w fun e w' => e = .returned (.tuple #[.int .i64 0, .int .i64 2]) ∧ Below w.heap.size w w' := by
  have CC := hide (bcheck_any h hok.fit)
  rw [rlErr_of h.rlen hok] at CC
  clear h hok
  go_enter Tryz.func199, Tryz.ntmps199
  go_wp2_with fail
  refine CC.out.mono ?_
  rintro e w1 ⟨rfl, b1⟩
  go_wp2_with fail
  go_ret2
  exact ⟨rfl, b1⟩
def bestV (o : Option Nat) : Int := match o with | none => -1 | some i => i
theorem bask_end (hb : Best l name l.length none) (h2 : ¬ 200 < name.size) : askOut l name = (0, 4) := by
  unfold askOut
  rw [if_neg h2, hb.none_ask _ (Nat.le_refl _), if_neg (by decide)]
theorem bask_end2 {i : Nat} {r : Rul} (hb : Best l name l.length (some i)) (hok : RlOk l) (h2 : ¬ 200 < name.size) (hr : l[i]? = some r) : askOut l name = (r.2.1, 0) := by
  obtain ⟨_, t, e1, e2, _⟩ := hb.some_ i rfl
  rw [hr] at e1
  injection e1 with e1
  subst e1
  unfold askOut
  rw [if_neg h2, hb.some_ask hok.up hr _ (Nat.le_refl _) ((hasPre_iff _ _).1 e2).1, if_pos (hok.small (List.mem_of_getElem? hr)).2]
set_option maxRecDepth 20000 in
set_option maxHeartbeats 6400000 in
theorem bask_ok (h : Sr w A n c l) (hok : RlOk l) (hl : ¬ 200 < name.size) :
    Calls Tryz.prog 199 #[.slice A n c, .string name] w fun e w' => e = .returned (.tuple #[.int .i64 (askOut l name).1, .int .i64 (askOut l name).2]) ∧ Below w.heap.size w w' := by
  have hm := h.len_max
  have CC := hide (bcheck_any h hok.fit)
  rw [rlErr_of h.rlen hok] at CC
  have HOK := hide hok
  have HLN := hide h.rlen
  have HL := hide hl
  clear hok
  go_enter Tryz.func199, Tryz.ntmps199
  go_wp2_with fail
  refine CC.out.mono ?_
  rintro e w1 ⟨rfl, b1⟩
  clear CC
  go_wp2_with fail
  go_loopw [7, 20] (fun bt i wr => ∃ (k : Nat) (o : Option Nat), k ≤ n ∧ i = .int .i64 k ∧ bt = .int .i64 (bestV o) ∧ Hid (Best l name k o) ∧ Below w.heap.size w wr) (fun _ i _ => n - (intOf i).toNat)
  case atStart => exact ⟨0, none, Nat.zero_le _, rfl, rfl, hide (Best.start _ _), b1⟩
  case round =>
    clear b1
    obtain ⟨k, o, hk, rfl, rfl, HB, hb⟩ := hrel
    by_cases hlt : k < n
    · obtain ⟨ad, r, rfl, hbk, hr, hc0, hc1, hc2⟩ := (h.below hb).rcell hlt
      have HR := hide hr
      have hsz := (HOK.out.small (List.mem_of_getElem? hr)).1
      clear hr
      have hb2 : Below w.heap.size w (wr.alloc (.cells #[.string r.1, .int .i64 r.2.1, .int .i64 r.2.2] 132)) := below_alloc hb _
      have bp := Blk.new wr 132 #[.string r.1, .int .i64 r.2.1, .int .i64 r.2.2]
      have q0 := bp.at_ (i := 0) (u := .string r.1) rfl
      have HPR := hide (hpre_any name r.1)
      have hab : ad.block < w.heap.size := hbk
      have hwr := hb.size
      cases hpr : hasPre name r.1 with
      | false =>
        rw [hpr] at HPR
        have HN := hide (HB.out.skip HR.out hpr)
        clear hpr
        go_upto_region 10 with fail
        clear bp hc0 hc1 hc2
        generalize (wr.alloc (.cells #[.string r.1, .int .i64 r.2.1, .int .i64 r.2.2] 132)) = wz at q0 hb2 ⊢
        go_quiet ((go_at_call 12; exact Calls.quiet_of_same ((HPR.out _).mono fun _ _ ⟨he, hw⟩ => ⟨he, hw.symm⟩)))
        go_wp2_with fail
        go_roundw
        case rel => exact ⟨k + 1, o, by omega, by go_num, rfl, HN, by repeat' (first | assumption | with_reducible exact Below.refl _ _ | with_reducible apply Below.drew | with_reducible apply below_drewN | with_reducible apply below_alloc | with_reducible refine below_set ?_ ?_ _ | (simp only [World.size_alloc, World.heap_drewN]; omega) | (simp; omega))⟩
        case measure => simp [intOf]; omega
      | true =>
        rw [hpr] at HPR
        cases o with
        | none =>
          have HN := hide (HB.out.first HR.out hpr)
          clear hpr
          rw [show bestV none = -1 from rfl]
          go_upto_region 10 with fail
          clear bp hc0 hc1 hc2
          generalize (wr.alloc (.cells #[.string r.1, .int .i64 r.2.1, .int .i64 r.2.2] 132)) = wz at q0 hb2 ⊢
          go_quiet ((go_at_call 12; exact Calls.quiet_of_same ((HPR.out _).mono fun _ _ ⟨he, hw⟩ => ⟨he, hw.symm⟩)))
          go_wp2_with fail
          go_roundw
          case rel => exact ⟨k + 1, some k, by omega, by go_num, rfl, HN, by repeat' (first | assumption | with_reducible exact Below.refl _ _ | with_reducible apply Below.drew | with_reducible apply below_drewN | with_reducible apply below_alloc | with_reducible refine below_set ?_ ?_ _ | (simp only [World.size_alloc, World.heap_drewN]; omega) | (simp; omega))⟩
          case measure => simp [intOf]; omega
        | some i =>
          rw [show bestV (some i) = (i : Int) from rfl]
          have hik := (HB.out.some_ i rfl).1
          obtain ⟨ad', s, had, hbk', hs, hs0, hs1, hs2⟩ := (h.below hb2).rcell (j := i) (by omega)
          injection had with had
          subst had
          have HSS := hide hs
          have hin : i < n := by omega
          have hss := (HOK.out.small (List.mem_of_getElem? hs)).1
          clear hs hs1 hs2
          have t0 : ¬ (i : Int) < 0 := by omega
          by_cases hgt : s.1.size < r.1.size
          · have HN := hide (HB.out.more HR.out hpr HSS.out hgt)
            clear hpr
            go_upto_region 10 with fail
            clear bp hc0 hc1 hc2
            generalize (wr.alloc (.cells #[.string r.1, .int .i64 r.2.1, .int .i64 r.2.2] 132)) = wz at q0 hb2 hs0 ⊢
            go_quiet ((go_at_call 12; exact Calls.quiet_of_same ((HPR.out _).mono fun _ _ ⟨he, hw⟩ => ⟨he, hw.symm⟩)))
            go_wp2_with fail
            go_roundw
            case rel => exact ⟨k + 1, some k, by omega, by go_num, rfl, HN, by repeat' (first | assumption | with_reducible exact Below.refl _ _ | with_reducible apply Below.drew | with_reducible apply below_drewN | with_reducible apply below_alloc | with_reducible refine below_set ?_ ?_ _ | (simp only [World.size_alloc, World.heap_drewN]; omega) | (simp; omega))⟩
            case measure => simp [intOf]; omega
          · have HN := hide (HB.out.keep HR.out HSS.out (by omega))
            clear hpr
            go_upto_region 10 with fail
            clear bp hc0 hc1 hc2
            generalize (wr.alloc (.cells #[.string r.1, .int .i64 r.2.1, .int .i64 r.2.2] 132)) = wz at q0 hb2 hs0 ⊢
            go_quiet ((go_at_call 12; exact Calls.quiet_of_same ((HPR.out _).mono fun _ _ ⟨he, hw⟩ => ⟨he, hw.symm⟩)))
            go_wp2_with fail
            go_roundw
            case rel => exact ⟨k + 1, some i, by omega, by go_num, rfl, HN, by repeat' (first | assumption | with_reducible exact Below.refl _ _ | with_reducible apply Below.drew | with_reducible apply below_drewN | with_reducible apply below_alloc | with_reducible refine below_set ?_ ?_ _ | (simp only [World.size_alloc, World.heap_drewN]; omega) | (simp; omega))⟩
            case measure => simp [intOf]; omega
    · obtain rfl : k = n := by omega
      cases o with
      | none =>
        have HE := hide (bask_end (by rw [HLN.out]; exact HB.out) HL.out)
        rw [show bestV none = -1 from rfl]
        go_wp2_with fail
        rw [HE.out]
        go_ret2
        exact ⟨rfl, hb⟩
      | some i =>
        have hik := (HB.out.some_ i rfl).1
        obtain ⟨ad', s, rfl, hbk', hs, hs0, hs1, hs2⟩ := (h.below hb).rcell (j := i) (by omega)
        have HE := hide (bask_end2 (by rw [HLN.out]; exact HB.out) HOK.out HL.out hs)
        clear hs
        rw [show bestV (some i) = (i : Int) from rfl]
        have t0 : ¬ (i : Int) < 0 := by omega
        go_wp2_with fail
        rw [HE.out]
        go_ret2
        exact ⟨rfl, hb⟩
end
end Go.Proofs.YtjpbjghdplbdcaaGreatDoor
end
