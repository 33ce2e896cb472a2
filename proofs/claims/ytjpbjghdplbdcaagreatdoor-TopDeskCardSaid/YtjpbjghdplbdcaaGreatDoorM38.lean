/- Proves the parts of the claim that its last text joins: Keep7. Conditions: those that each theorem names. -/
import Derived.Test.YtjpbjghdplbdcaaGreatDoorM13
import Derived.Test.YtjpbjghdplbdcaaGreatDoorM22
import Derived.Test.YtjpbjghdplbdcaaGreatDoorM37
section
namespace Go.Proofs.YtjpbjghdplbdcaaGreatDoor
open Go.RowKit Go.Shelf
set_option linter.unusedVariables false
theorem bask_is {w : World} {A : Option Addr} {n c : Nat} {l : List Rul} {name : ByteArray} (h : Sr w A n c l) (hok : RlOk l) :
    Calls Tryz.prog 199 #[.slice A n c, .string name] w fun e w' => e = .returned (.tuple #[.int .i64 (askOut l name).1, .int .i64 (askOut l name).2]) ∧ Below w.heap.size w w' := by
  by_cases hl : 200 < name.size
  · rw [show askOut l name = (0, 2) by unfold askOut; rw [if_pos hl]]
    exact bask_long h hok hl
  · exact bask_ok h hok hl
theorem look_lev {l : List Rul} (hok : RlOk l) {k : ByteArray} {r : Rul} (h : look k l = some r) : 0 ≤ r.2.1 ∧ r.2.1 ≤ 20 := by
  have h1 := hok.one r (look_mem h).1
  unfold oneErr at h1
  split at h1
  · omega
  · split at h1
    · omega
    · rename_i h2
      unfold argBad at h2
      omega
theorem down_lev {l : List Rul} (hok : RlOk l) (name : ByteArray) : ∀ n, -1 ≤ askDown l name n ∧ askDown l name n ≤ 20
  | 0 => by
    unfold askDown
    split
    · rename_i r h; have := look_lev hok h; omega
    · omega
  | n + 1 => by
    unfold askDown
    split
    · rename_i r h; have := look_lev hok h; omega
    · exact down_lev hok name n
theorem ask_fit {l : List Rul} (hok : RlOk l) (name : ByteArray) : I64 (askOut l name).1 := by
  have := down_lev hok name name.size
  unfold askOut I64
  split
  · dsimp only; omega
  · split
    · dsimp only; omega
    · dsimp only; omega
section
variable {w : World} {g bd bx b : Nat} {s : DSt} {p : ByteArray}
set_option maxRecDepth 100000 in
set_option maxHeartbeats 6400000 in
theorem keep7_any (hL : LibW b w) (hb : b ≤ g) (hD : DeskAt w g s) (hO : DOk s) 
    (bD : Blk w bd 39 #[.pointer (some ⟨g, 0, none⟩)]) (bbx : Blk w bx 9 #[.string p]) :
    Calls Tryz.prog 198 #[.pointer (some ⟨bd, 0, none⟩), .pointer (some ⟨bx, 0, none⟩)] w fun e w' => Did w g (ofS s p) e w' := by
  have HL := hide hL
  have HO := hide hO
  have HD := hide hD
  obtain ⟨Ac, nc, cc, Ar, nr, cr, Ai, ni, ci, An, nn, cn, hg, ⟨h1, o1⟩, ⟨h2, o2⟩, ⟨h3, o3⟩, ⟨h4, o4⟩⟩ := hD
  have hgl := hg.lt
  have CP := hide (fun w' (hb : Below w.heap.size w w') => bask_is (name := p) (h2.on hb) HO.out.rules)
  have HF := hide (ask_fit HO.out.rules p)
  have HS := hide (show ofS s p = ((askOut s.rules p).2, s, toldOf [(askOut s.rules p).1]) from rfl)
  rw [HS.out]
  obtain ⟨V, E, hVE⟩ : ∃ V E, askOut s.rules p = (V, E) := ⟨_, _, rfl⟩
  rw [hVE] at CP HF ⊢
  dsimp only at CP HF ⊢
  clear hVE HS
  have ad := bD.at_ (i := 0) (u := .pointer (some ⟨g, 0, none⟩)) rfl
  have abx0 := bbx.at_ (i := 0) (u := .string p) rfl
  have a3 := hg.at_ (i := 3) (u := .slice Ar nr cr) rfl
  have hbw : b ≤ w.heap.size := by omega
  clear hL hO
  go_enter Tryz.func198, Tryz.ntmps198
  go_wp2_with fail
  refine anyTill.begin (S := Till (fun w' => w'.cell? ⟨bd, 0, none⟩ = some (.pointer (some ⟨g, 0, none⟩)) ∧ w'.cell? ⟨bx, 0, none⟩ = some (.string p) ∧ w'.cell? ⟨g, 3, none⟩ = some (.slice Ar nr cr)) (fun _ => True) []) (by kernel_rfl) ?_
  refine anyTill.last (i := 0) (oi := { dst := some 3, op := Op.load 39 (Operand.tmp 0), type := 39, pos := "desk.go:232", after := #[], guard := none }) (v := ?_) rfl (by kernel_rfl) (by kernel_rfl) (by kernel_rfl) (fun _ _ _ h => h) (by rfl) (Or.inl ⟨by rfl, ?_⟩) ⟨by (refine ⟨kept (B := w.heap.size) (p := ⟨bd, 0, none⟩) (bD.lt) ad ?_, kept (B := w.heap.size) (p := ⟨bx, 0, none⟩) (bbx.lt) abx0 ?_, kept (B := w.heap.size) (p := ⟨g, 3, none⟩) (hgl) a3 ?_⟩ <;> repeat' (first | assumption | with_reducible exact Below.refl _ _ | with_reducible apply Below.drew | with_reducible apply below_drewN | with_reducible apply below_alloc | with_reducible refine below_set ?_ ?_ _ | (simp only [World.size_alloc, World.heap_drewN]; omega) | (simp; omega))), fun _ => by trivial⟩ (fun hS => ?_)
  rotate_left
  · (intro w hSw; (try dsimp only at hSw); go_split_ands; go_simp; try with_reducible rfl)
  try simp only [Act.put, List.setIfInBounds_toArray, List.set_cons_zero, List.set_cons_succ]
  refine anyTill.last (i := 1) (oi := { dst := some 4, op := Op.nilCheck (Operand.tmp 3), type := 0, pos := "desk.go:232", after := #[{ on := 0, ground := Ground.data }], guard := none }) (v := ?_) rfl (by kernel_rfl) (by kernel_rfl) (by kernel_rfl) (fun _ _ _ h => h) (by rfl) (Or.inl ⟨by rfl, ?_⟩) hS (fun hS => ?_)
  rotate_left
  · (intro w hSw; (try dsimp only at hSw); go_split_ands; go_simp; try with_reducible rfl)
  try simp only [Act.put, List.setIfInBounds_toArray, List.set_cons_zero, List.set_cons_succ]
  refine anyTill.last (i := 2) (oi := { dst := some 5, op := Op.fieldAddr 50 (Operand.tmp 4) 1, type := 0, pos := "desk.go:232", after := #[{ on := 1, ground := Ground.data }], guard := none }) (v := ?_) rfl (by kernel_rfl) (by kernel_rfl) (by kernel_rfl) (fun _ _ _ h => h) (by rfl) (Or.inl ⟨by rfl, ?_⟩) hS (fun hS => ?_)
  rotate_left
  · (intro w hSw; (try dsimp only at hSw); go_split_ands; go_simp; try with_reducible rfl)
  try simp only [Act.put, List.setIfInBounds_toArray, List.set_cons_zero, List.set_cons_succ]
  refine anyTill.last (i := 3) (oi := { dst := some 6, op := Op.load 48 (Operand.tmp 5), type := 48, pos := "desk.go:232", after := #[{ on := 2, ground := Ground.data }], guard := none }) (v := ?_) rfl (by kernel_rfl) (by kernel_rfl) (by kernel_rfl) (fun _ _ _ h => h) (by rfl) (Or.inl ⟨by rfl, ?_⟩) hS (fun hS => ?_)
  rotate_left
  · (intro w hSw; (try dsimp only at hSw); go_split_ands; go_simp; try with_reducible rfl)
  try simp only [Act.put, List.setIfInBounds_toArray, List.set_cons_zero, List.set_cons_succ]
  refine anyTill.last (i := 4) (oi := { dst := some 7, op := Op.load 9 (Operand.tmp 1), type := 9, pos := "desk.go:232", after := #[], guard := none }) (v := ?_) rfl (by kernel_rfl) (by kernel_rfl) (by kernel_rfl) (fun _ _ _ h => h) (by rfl) (Or.inl ⟨by rfl, ?_⟩) hS (fun hS => ?_)
  rotate_left
  · (intro w hSw; (try dsimp only at hSw); go_split_ands; go_simp; try with_reducible rfl)
  try simp only [Act.put, List.setIfInBounds_toArray, List.set_cons_zero, List.set_cons_succ]
  refine anyTill.ready (rs := [5]) (by kernel_rfl) (by simp) ?_
  refine AllTill.cons (o := { dst := some 8, op := Op.call { callee := Callee.value (Operand.func 199), args := #[Operand.tmp 6, Operand.tmp 7], argTypes := #[48, 9] }, type := 92, pos := "desk.go:232", after := #[{ on := 3, ground := Ground.data }, { on := 4, ground := Ground.data }], guard := none }) rfl (fun K hK => ?_) AllTill.nil
  · clear hS
    go_wp2_with fail
    go_at_call 199
    refine (CP.out _ (by repeat' (first | assumption | with_reducible exact Below.refl _ _ | with_reducible apply Below.drew | with_reducible apply below_drewN | with_reducible apply below_alloc | with_reducible refine below_set ?_ ?_ _ | (simp only [World.size_alloc, World.heap_drewN]; omega) | (simp; omega)))).mono ?_
    rintro e w5 ⟨rfl, hb5⟩
    have hb5 : Below w.heap.size w w5 := below_on (by repeat' (first | assumption | with_reducible exact Below.refl _ _ | with_reducible apply Below.drew | with_reducible apply below_drewN | with_reducible apply below_alloc | with_reducible refine below_set ?_ ?_ _ | (simp only [World.size_alloc, World.heap_drewN]; omega) | (simp; omega))) hb5
    refine hK.out _ _ (Till.over (by rfl) (by (refine ⟨kept (B := w.heap.size) (p := ⟨bd, 0, none⟩) (bD.lt) ad ?_, kept (B := w.heap.size) (p := ⟨bx, 0, none⟩) (bbx.lt) abx0 ?_, kept (B := w.heap.size) (p := ⟨g, 3, none⟩) (hgl) a3 ?_⟩ <;> repeat' (first | assumption | with_reducible exact Below.refl _ _ | with_reducible apply Below.drew | with_reducible apply below_drewN | with_reducible apply below_alloc | with_reducible refine below_set ?_ ?_ _ | (simp only [World.size_alloc, World.heap_drewN]; omega) | (simp; omega))))) (fun hS => ?_)
    clear hK K
    try simp only [Act.put, List.setIfInBounds_toArray, List.set_cons_zero, List.set_cons_succ]
    refine anyTill.last (i := 6) (oi := { dst := some 9, op := Op.extract (Operand.tmp 8) 0, type := 3, pos := "desk.go:232", after := #[{ on := 5, ground := Ground.data }], guard := none }) (v := ?_) rfl (by kernel_rfl) (by kernel_rfl) (by kernel_rfl) (fun _ _ _ h => h) (by rfl) (Or.inl ⟨by rfl, ?_⟩) hS (fun hS => ?_)
    rotate_left
    · (intro w hSw; (try dsimp only at hSw); go_split_ands; go_simp; try with_reducible rfl)
    try simp only [Act.put, List.setIfInBounds_toArray, List.set_cons_zero, List.set_cons_succ]
    refine anyTill.last (i := 7) (oi := { dst := some 10, op := Op.extract (Operand.tmp 8) 1, type := 64, pos := "desk.go:232", after := #[{ on := 5, ground := Ground.data }], guard := none }) (v := ?_) rfl (by kernel_rfl) (by kernel_rfl) (by kernel_rfl) (fun _ _ _ h => h) (by rfl) (Or.inl ⟨by rfl, ?_⟩) hS (fun hS => ?_)
    rotate_left
    · (intro w hSw; (try dsimp only at hSw); go_split_ands; go_simp; try with_reducible rfl)
    try simp only [Act.put, List.setIfInBounds_toArray, List.set_cons_zero, List.set_cons_succ]
    refine anyTill.ready (rs := [8]) (by kernel_rfl) (by simp) ?_
    refine AllTill.cons (o := { dst := some 11, op := Op.call { callee := Callee.value (Operand.func 84), args := #[Operand.tmp 9, Operand.tmp 10], argTypes := #[3, 64] }, type := 9, pos := "desk.go:232", after := #[{ on := 6, ground := Ground.data }, { on := 7, ground := Ground.data }, { on := 5, ground := Ground.chain }], guard := none }) rfl (fun K hK => ?_) AllTill.nil
    · clear hS
      by_cases hE : E ≠ 0
      · go_wp2_with fail
        go_at_call 84
        refine (one_bad hE).mono ?_
        rintro e w6 ⟨rfl, rfl⟩
        exact ⟨rfl, gbelow hb5 _, HD.out.on hb5, .inr ⟨hE, rfl⟩⟩
      obtain rfl : E = 0 := Decidable.not_not.1 hE
      go_wp2_with fail
      go_at_call 84
      refine (one_ok (HL.out.on hb5 hbw) (by have := hb5.size; omega) HF.out).mono ?_
      rintro e w6 ⟨rfl, b6⟩
      have hb6 : Below w.heap.size w w6 := below_on hb5 b6
      refine hK.out _ _ (Till.over (by rfl) (by (refine ⟨kept (B := w.heap.size) (p := ⟨bd, 0, none⟩) (bD.lt) ad ?_, kept (B := w.heap.size) (p := ⟨bx, 0, none⟩) (bbx.lt) abx0 ?_, kept (B := w.heap.size) (p := ⟨g, 3, none⟩) (hgl) a3 ?_⟩ <;> repeat' (first | assumption | with_reducible exact Below.refl _ _ | with_reducible apply Below.drew | with_reducible apply below_drewN | with_reducible apply below_alloc | with_reducible refine below_set ?_ ?_ _ | (simp only [World.size_alloc, World.heap_drewN]; omega) | (simp; omega))))) (fun hS => ?_)
      clear hK K
      try simp only [Act.put, List.setIfInBounds_toArray, List.set_cons_zero, List.set_cons_succ]
      refine anyTill.last (i := 9) (oi := { dst := some 2, op := Op.assign (Operand.tmp 11), type := 9, pos := "desk.go:232", after := #[{ on := 8, ground := Ground.data }, { on := 8, ground := Ground.chain }, { on := 0, ground := Ground.phase }, { on := 1, ground := Ground.phase }, { on := 2, ground := Ground.phase }, { on := 3, ground := Ground.phase }, { on := 4, ground := Ground.phase }, { on := 5, ground := Ground.phase }, { on := 6, ground := Ground.phase }, { on := 7, ground := Ground.phase }, { on := 8, ground := Ground.phase }], guard := none }) (v := ?_) rfl (by kernel_rfl) (by kernel_rfl) (by kernel_rfl) (fun _ _ _ h => h) (by rfl) (Or.inl ⟨by rfl, ?_⟩) hS (fun hS => ?_)
      rotate_left
      · (intro w hSw; (try dsimp only at hSw); go_split_ands; go_simp; try with_reducible rfl)
      try simp only [Act.put, List.setIfInBounds_toArray, List.set_cons_zero, List.set_cons_succ]
      refine anyTill.fin (by kernel_rfl) ?_ _
      clear hS
      go_wp2_with fail
      go_ret
      exact ⟨gbelow hb6 _, HD.out.on hb6, .inl ⟨rfl, rfl⟩⟩
end
end Go.Proofs.YtjpbjghdplbdcaaGreatDoor
end
