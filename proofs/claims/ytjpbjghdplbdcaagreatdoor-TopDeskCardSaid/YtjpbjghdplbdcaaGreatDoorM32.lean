/- Proves the parts of the claim that its last text joins: Keep5. Conditions: those that each theorem names. -/
import Derived.Test.YtjpbjghdplbdcaaGreatDoorM13
import Derived.Test.YtjpbjghdplbdcaaGreatDoorM22
import Derived.Test.YtjpbjghdplbdcaaGreatDoorM27
import Derived.Test.YtjpbjghdplbdcaaGreatDoorM31
section
namespace Go.Proofs.YtjpbjghdplbdcaaGreatDoor
open Go.RowKit Go.Shelf
set_option linter.unusedVariables false
section
variable {w : World} {g bd bx b : Nat} {s : DSt} {key : Int}
set_option maxRecDepth 100000 in
set_option maxHeartbeats 6400000 in
theorem keep5_any (hL : LibW b w) (hb : b ≤ g) (hD : DeskAt w g s) (hO : DOk s) 
    (bD : Blk w bd 39 #[.pointer (some ⟨g, 0, none⟩)]) (bbx : Blk w bx 3 #[.int .i64 key]) :
    Calls Tryz.prog 194 #[.pointer (some ⟨bd, 0, none⟩), .pointer (some ⟨bx, 0, none⟩)] w fun e w' => Did w g (askS s key) e w' := by
  have HL := hide hL
  have HO := hide hO
  have HD := hide hD
  have hF := hO.few
  obtain ⟨Ac, nc, cc, Ar, nr, cr, Ai, ni, ci, An, nn, cn, hg, ⟨h1, o1⟩, ⟨h2, o2⟩, ⟨h3, o3⟩, ⟨h4, o4⟩⟩ := hD
  have hgl := hg.lt
  rw [h1.plen] at hF
  have hok := fwErr_ok h1.plen hF
  have CA := hide (fun w' (hb : Below w.heap.size w w') => fask_ok (key := key) (h1.on hb) hok hF)
  have hcn := cnt_in hok.up (B := 1000000000000) (by omega) (fun p hp => hok.cnt p hp) key
  have hl1 := hok.l1
  have hl2 := hok.l2
  have HS := hide (show askS s key = (0, s, toldOf [cnt s.ctrs key, cnt s.ctrs key + s.lost]) from rfl)
  rw [HS.out]
  obtain ⟨V, hV⟩ : ∃ V, cnt s.ctrs key = V := ⟨_, rfl⟩
  rw [hV] at CA hcn ⊢
  clear hok hF hV HS
  have ad := bD.at_ (i := 0) (u := .pointer (some ⟨g, 0, none⟩)) rfl
  have abx0 := bbx.at_ (i := 0) (u := .int .i64 key) rfl
  have a0 := hg.at_ (i := 0) (u := .int .i64 3) rfl
  have a1 := hg.at_ (i := 1) (u := .int .i64 s.lost) rfl
  have a2 := hg.at_ (i := 2) (u := .slice Ac nc cc) rfl
  have hbw : b ≤ w.heap.size := by omega
  clear hL hO
  go_enter Tryz.func194, Tryz.ntmps194
  go_wp2_with fail
  refine anyTill.begin (S := Till (fun w' => w'.cell? ⟨bd, 0, none⟩ = some (.pointer (some ⟨g, 0, none⟩)) ∧ w'.cell? ⟨bx, 0, none⟩ = some (.int .i64 key) ∧ w'.cell? ⟨g, 0, none⟩ = some (.int .i64 3) ∧ w'.cell? ⟨g, 1, none⟩ = some (.int .i64 s.lost) ∧ w'.cell? ⟨g, 2, none⟩ = some (.slice Ac nc cc)) (fun _ => True) []) (by kernel_rfl) ?_
  refine anyTill.last (i := 0) (oi := { dst := some 7, op := Op.load 39 (Operand.tmp 0), type := 39, pos := "desk.go:218", after := #[], guard := none }) (v := ?_) rfl (by kernel_rfl) (by kernel_rfl) (by kernel_rfl) (fun _ _ _ h => h) (by rfl) (Or.inl ⟨by rfl, ?_⟩) ⟨by (refine ⟨kept (B := w.heap.size) (p := ⟨bd, 0, none⟩) (bD.lt) ad ?_, kept (B := w.heap.size) (p := ⟨bx, 0, none⟩) (bbx.lt) abx0 ?_, kept (B := w.heap.size) (p := ⟨g, 0, none⟩) (hgl) a0 ?_, kept (B := w.heap.size) (p := ⟨g, 1, none⟩) (hgl) a1 ?_, kept (B := w.heap.size) (p := ⟨g, 2, none⟩) (hgl) a2 ?_⟩ <;> repeat' (first | assumption | with_reducible exact Below.refl _ _ | with_reducible apply Below.drew | with_reducible apply below_drewN | with_reducible apply below_alloc | with_reducible refine below_set ?_ ?_ _ | (simp only [World.size_alloc, World.heap_drewN]; omega) | (simp; omega))), fun _ => by trivial⟩ (fun hS => ?_)
  rotate_left
  · (intro w hSw; (try dsimp only at hSw); go_split_ands; go_simp; try with_reducible rfl)
  try simp only [Act.put, List.setIfInBounds_toArray, List.set_cons_zero, List.set_cons_succ]
  refine anyTill.last (i := 1) (oi := { dst := some 8, op := Op.nilCheck (Operand.tmp 7), type := 0, pos := "desk.go:218", after := #[{ on := 0, ground := Ground.data }], guard := none }) (v := ?_) rfl (by kernel_rfl) (by kernel_rfl) (by kernel_rfl) (fun _ _ _ h => h) (by rfl) (Or.inl ⟨by rfl, ?_⟩) hS (fun hS => ?_)
  rotate_left
  · (intro w hSw; (try dsimp only at hSw); go_split_ands; go_simp; try with_reducible rfl)
  try simp only [Act.put, List.setIfInBounds_toArray, List.set_cons_zero, List.set_cons_succ]
  refine anyTill.last (i := 2) (oi := { dst := some 9, op := Op.fieldAddr 50 (Operand.tmp 8) 0, type := 0, pos := "desk.go:218", after := #[{ on := 1, ground := Ground.data }], guard := none }) (v := ?_) rfl (by kernel_rfl) (by kernel_rfl) (by kernel_rfl) (fun _ _ _ h => h) (by rfl) (Or.inl ⟨by rfl, ?_⟩) hS (fun hS => ?_)
  rotate_left
  · (intro w hSw; (try dsimp only at hSw); go_split_ands; go_simp; try with_reducible rfl)
  try simp only [Act.put, List.setIfInBounds_toArray, List.set_cons_zero, List.set_cons_succ]
  refine anyTill.last (i := 3) (oi := { dst := some 10, op := Op.load 42 (Operand.tmp 9), type := 42, pos := "desk.go:218", after := #[{ on := 2, ground := Ground.data }], guard := none }) (v := ?_) rfl (by kernel_rfl) (by kernel_rfl) (by kernel_rfl) (fun _ _ _ h => h) (by rfl) (Or.inl ⟨by rfl, ?_⟩) hS (fun hS => ?_)
  rotate_left
  · (intro w hSw; (try dsimp only at hSw); go_split_ands; go_simp; try with_reducible rfl)
  try simp only [Act.put, List.setIfInBounds_toArray, List.set_cons_zero, List.set_cons_succ]
  refine anyTill.last (i := 4) (oi := { dst := some 11, op := Op.load 3 (Operand.tmp 1), type := 3, pos := "desk.go:218", after := #[], guard := none }) (v := ?_) rfl (by kernel_rfl) (by kernel_rfl) (by kernel_rfl) (fun _ _ _ h => h) (by rfl) (Or.inl ⟨by rfl, ?_⟩) hS (fun hS => ?_)
  rotate_left
  · (intro w hSw; (try dsimp only at hSw); go_split_ands; go_simp; try with_reducible rfl)
  try simp only [Act.put, List.setIfInBounds_toArray, List.set_cons_zero, List.set_cons_succ]
  refine anyTill.ready (rs := [5]) (by kernel_rfl) (by simp) ?_
  refine AllTill.cons (o := { dst := some 12, op := Op.call { callee := Callee.value (Operand.func 195), args := #[Operand.tmp 10, Operand.tmp 11], argTypes := #[42, 3] }, type := 206, pos := "desk.go:218", after := #[{ on := 3, ground := Ground.data }, { on := 4, ground := Ground.data }], guard := none }) rfl (fun K hK => ?_) AllTill.nil
  · clear hS
    go_wp2_with fail
    go_at_call 195
    refine (CA.out _ (by repeat' (first | assumption | with_reducible exact Below.refl _ _ | with_reducible apply Below.drew | with_reducible apply below_drewN | with_reducible apply below_alloc | with_reducible refine below_set ?_ ?_ _ | (simp only [World.size_alloc, World.heap_drewN]; omega) | (simp; omega)))).mono ?_
    rintro e w5 ⟨rfl, hb5⟩
    have hb5 : Below w.heap.size w w5 := below_on (by repeat' (first | assumption | with_reducible exact Below.refl _ _ | with_reducible apply Below.drew | with_reducible apply below_drewN | with_reducible apply below_alloc | with_reducible refine below_set ?_ ?_ _ | (simp only [World.size_alloc, World.heap_drewN]; omega) | (simp; omega))) hb5
    refine hK.out _ _ (Till.over (by rfl) (by (refine ⟨kept (B := w.heap.size) (p := ⟨bd, 0, none⟩) (bD.lt) ad ?_, kept (B := w.heap.size) (p := ⟨bx, 0, none⟩) (bbx.lt) abx0 ?_, kept (B := w.heap.size) (p := ⟨g, 0, none⟩) (hgl) a0 ?_, kept (B := w.heap.size) (p := ⟨g, 1, none⟩) (hgl) a1 ?_, kept (B := w.heap.size) (p := ⟨g, 2, none⟩) (hgl) a2 ?_⟩ <;> repeat' (first | assumption | with_reducible exact Below.refl _ _ | with_reducible apply Below.drew | with_reducible apply below_drewN | with_reducible apply below_alloc | with_reducible refine below_set ?_ ?_ _ | (simp only [World.size_alloc, World.heap_drewN]; omega) | (simp; omega))))) (fun hS => ?_)
    clear hK K
    try simp only [Act.put, List.setIfInBounds_toArray, List.set_cons_zero, List.set_cons_succ]
    refine anyTill.last (i := 6) (oi := { dst := some 6, op := Op.move (Operand.tmp 12), type := 206, pos := "desk.go:218", after := #[{ on := 5, ground := Ground.data }], guard := none }) (v := ?_) rfl (by kernel_rfl) (by kernel_rfl) (by kernel_rfl) (fun _ _ _ h => h) (by rfl) (Or.inl ⟨by rfl, ?_⟩) hS (fun hS => ?_)
    rotate_left
    · (intro w hSw; (try dsimp only at hSw); go_split_ands; go_simp; try with_reducible rfl)
    try simp only [Act.put, List.setIfInBounds_toArray, List.set_cons_zero, List.set_cons_succ]
    refine anyTill.last (i := 7) (oi := { dst := some 13, op := Op.extract (Operand.tmp 6) 0, type := 3, pos := "desk.go:218", after := #[{ on := 6, ground := Ground.data }], guard := none }) (v := ?_) rfl (by kernel_rfl) (by kernel_rfl) (by kernel_rfl) (fun _ _ _ h => h) (by rfl) (Or.inl ⟨by rfl, ?_⟩) hS (fun hS => ?_)
    rotate_left
    · (intro w hSw; (try dsimp only at hSw); go_split_ands; go_simp; try with_reducible rfl)
    try simp only [Act.put, List.setIfInBounds_toArray, List.set_cons_zero, List.set_cons_succ]
    refine anyTill.last (i := 8) (oi := { dst := some 14, op := Op.extract (Operand.tmp 6) 1, type := 3, pos := "desk.go:218", after := #[{ on := 6, ground := Ground.data }, { on := 10, ground := Ground.gcOnly Departure.lateStores }], guard := none }) (v := ?_) rfl (by kernel_rfl) (by kernel_rfl) (by kernel_rfl) (fun _ _ _ h => h) (by rfl) (Or.inl ⟨by rfl, ?_⟩) hS (fun hS => ?_)
    rotate_left
    · (intro w hSw; (try dsimp only at hSw); go_split_ands; go_simp; try with_reducible rfl)
    try simp only [Act.put, List.setIfInBounds_toArray, List.set_cons_zero, List.set_cons_succ]
    refine anyTill.last (i := 9) (oi := { dst := some 15, op := Op.extract (Operand.tmp 6) 2, type := 64, pos := "desk.go:218", after := #[{ on := 6, ground := Ground.data }, { on := 11, ground := Ground.gcOnly Departure.lateStores }], guard := none }) (v := ?_) rfl (by kernel_rfl) (by kernel_rfl) (by kernel_rfl) (fun _ _ _ h => h) (by rfl) (Or.inl ⟨by rfl, ?_⟩) hS (fun hS => ?_)
    rotate_left
    · (intro w hSw; (try dsimp only at hSw); go_split_ands; go_simp; try with_reducible rfl)
    try simp only [Act.put, List.setIfInBounds_toArray, List.set_cons_zero, List.set_cons_succ]
    refine anyTill.last (i := 10) (oi := { dst := some 3, op := Op.assign (Operand.tmp 13), type := 3, pos := "desk.go:218", after := #[{ on := 7, ground := Ground.data }, { on := 5, ground := Ground.chain }, { on := 0, ground := Ground.phase }, { on := 1, ground := Ground.phase }, { on := 2, ground := Ground.phase }, { on := 3, ground := Ground.phase }, { on := 4, ground := Ground.phase }, { on := 5, ground := Ground.phase }, { on := 6, ground := Ground.phase }, { on := 7, ground := Ground.phase }, { on := 8, ground := Ground.textOnly Departure.lateStores }, { on := 9, ground := Ground.textOnly Departure.lateStores }], guard := none }) (v := ?_) rfl (by kernel_rfl) (by kernel_rfl) (by kernel_rfl) (fun _ _ _ h => h) (by rfl) (Or.inl ⟨by rfl, ?_⟩) hS (fun hS => ?_)
    rotate_left
    · (intro w hSw; (try dsimp only at hSw); go_split_ands; go_simp; try with_reducible rfl)
    try simp only [Act.put, List.setIfInBounds_toArray, List.set_cons_zero, List.set_cons_succ]
    refine anyTill.last (i := 11) (oi := { dst := some 4, op := Op.assign (Operand.tmp 14), type := 3, pos := "desk.go:218", after := #[{ on := 8, ground := Ground.data }, { on := 10, ground := Ground.chain }, { on := 0, ground := Ground.phase }, { on := 1, ground := Ground.phase }, { on := 2, ground := Ground.phase }, { on := 3, ground := Ground.phase }, { on := 4, ground := Ground.phase }, { on := 5, ground := Ground.phase }, { on := 6, ground := Ground.phase }, { on := 7, ground := Ground.phase }, { on := 8, ground := Ground.phase }, { on := 9, ground := Ground.textOnly Departure.lateStores }, { on := 10, ground := Ground.phase }], guard := none }) (v := ?_) rfl (by kernel_rfl) (by kernel_rfl) (by kernel_rfl) (fun _ _ _ h => h) (by rfl) (Or.inl ⟨by rfl, ?_⟩) hS (fun hS => ?_)
    rotate_left
    · (intro w hSw; (try dsimp only at hSw); go_split_ands; go_simp; try with_reducible rfl)
    try simp only [Act.put, List.setIfInBounds_toArray, List.set_cons_zero, List.set_cons_succ]
    refine anyTill.last (i := 12) (oi := { dst := some 5, op := Op.assign (Operand.tmp 15), type := 64, pos := "desk.go:218", after := #[{ on := 9, ground := Ground.data }, { on := 11, ground := Ground.chain }, { on := 0, ground := Ground.phase }, { on := 1, ground := Ground.phase }, { on := 2, ground := Ground.phase }, { on := 3, ground := Ground.phase }, { on := 4, ground := Ground.phase }, { on := 5, ground := Ground.phase }, { on := 6, ground := Ground.phase }, { on := 7, ground := Ground.phase }, { on := 8, ground := Ground.phase }, { on := 9, ground := Ground.phase }, { on := 10, ground := Ground.phase }, { on := 11, ground := Ground.phase }], guard := none }) (v := ?_) rfl (by kernel_rfl) (by kernel_rfl) (by kernel_rfl) (fun _ _ _ h => h) (by rfl) (Or.inl ⟨by rfl, ?_⟩) hS (fun hS => ?_)
    rotate_left
    · (intro w hSw; (try dsimp only at hSw); go_split_ands; go_simp; try with_reducible rfl)
    try simp only [Act.put, List.setIfInBounds_toArray, List.set_cons_zero, List.set_cons_succ]
    refine anyTill.fin (by kernel_rfl) ?_ _
    clear hS
    go_wp2_with fail
    refine (must_ok _).mono ?_
    rintro e w6 ⟨rfl, rfl⟩
    go_wp2_with fail
    have bL := Blk.new w6 3 #[.int .i64 V, .int .i64 (V + s.lost)]
    have hb6 := below_alloc hb5 (.cells #[.int .i64 V, .int .i64 (V + s.lost)] 3)
    have hsl : Si _ (some ⟨w6.heap.size, 0, none⟩) 2 2 [V, V + s.lost] := Sl.blk (cs := ints [V, V + s.lost]) 1 2 bL rfl (by simp [maxLen])
    refine (told_any (HL.out.on hb6 hbw) (by have := hb6.size; omega) hsl (by omega) (all2 (by unfold I64; omega) (by unfold I64; omega))).mono ?_
    rintro e w7 ⟨rfl, b7⟩
    go_wp2_with fail
    go_ret
    exact ⟨gbelow (below_on hb6 b7) _, HD.out.on (below_on hb6 b7), .inl ⟨rfl, rfl⟩⟩
end
end Go.Proofs.YtjpbjghdplbdcaaGreatDoor
end
