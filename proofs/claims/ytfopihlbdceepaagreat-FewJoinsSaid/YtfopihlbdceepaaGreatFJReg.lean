/-
  few.Join: the region that makes what comes out, a theorem a state. Conditions: the counters read as a list of pairs.
-/
import Derived.Test.YtfopihlbdceepaaGreatLawFew0
namespace Go.Proofs.YtfopihlbdceepaaGreat
open Go.RowKit Go.Shelf Go.Maps
set_option linter.unusedVariables false

def joinreg_ops : Array Oper := #[{ dst := some 50, op := Op.fieldAddr 24 (Operand.tmp 2) 0, type := 0, pos := "few.go:110", after := #[], guard := none },
  { dst := some 51, op := Op.load 3 (Operand.tmp 50), type := 3, pos := "few.go:110", after := #[{ on := 0, ground := Ground.data }], guard := none },
  { dst := some 52, op := Op.fieldAddr 24 (Operand.tmp 2) 1, type := 0, pos := "few.go:110", after := #[], guard := none },
  { dst := some 53, op := Op.load 3 (Operand.tmp 52), type := 3, pos := "few.go:110", after := #[{ on := 2, ground := Ground.data }], guard := none },
  { dst := some 54, op := Op.fieldAddr 24 (Operand.tmp 3) 1, type := 0, pos := "few.go:110", after := #[], guard := none },
  { dst := some 55, op := Op.load 3 (Operand.tmp 54), type := 3, pos := "few.go:110", after := #[{ on := 4, ground := Ground.data }], guard := none },
  { dst := some 56, op := Op.binOp BinOp.add 3 (Operand.tmp 53) (Operand.tmp 55) 3, type := 3, pos := "few.go:110", after := #[{ on := 3, ground := Ground.data }, { on := 5, ground := Ground.data }], guard := none },
  { dst := some 57, op := Op.move (Operand.tmp 8), type := 22, pos := "few.go:110", after := #[], guard := none },
  { dst := some 58, op := Op.call { callee := Callee.value (Operand.func 14), args := #[Operand.tmp 57], argTypes := #[22] }, type := 22, pos := "few.go:110", after := #[{ on := 7, ground := Ground.data }], guard := none },
  { dst := some 59, op := Op.build 24 #[(0, Operand.tmp 51), (1, Operand.tmp 56), (2, Operand.tmp 58)], type := 24, pos := "few.go:110", after := #[{ on := 1, ground := Ground.data }, { on := 6, ground := Ground.data }, { on := 8, ground := Ground.data }], guard := none },
  { dst := some 11, op := Op.alloc 24, type := 0, pos := "few.go:110", after := #[], guard := none },
  { dst := none, op := Op.store 24 (Operand.tmp 11) (Operand.tmp 59), type := 0, pos := "few.go:110", after := #[{ on := 10, ground := Ground.data }, { on := 9, ground := Ground.data }, { on := 8, ground := Ground.chain }, { on := 0, ground := Ground.phase }, { on := 1, ground := Ground.phase }, { on := 2, ground := Ground.phase }, { on := 3, ground := Ground.phase }, { on := 4, ground := Ground.phase }, { on := 5, ground := Ground.phase }, { on := 6, ground := Ground.phase }, { on := 7, ground := Ground.phase }, { on := 8, ground := Ground.phase }, { on := 9, ground := Ground.phase }, { on := 10, ground := Ground.phase }], guard := none }]
set_option maxRecDepth 100000 in
set_option maxHeartbeats 3200000 in
theorem joinreg_8_10 {w0 : World} {A' : Option Addr} {N c' pf pg : Nat} {M : List Ct} {kz L L2 : Int} (hs : Sp w0 A' N c' M) (hN : N ≤ 40) (ez : IntKind.i64.wrap (L + L2) = L + L2) (hpl : pf < w0.heap.size) (hpg : pg < w0.heap.size) (q0 : w0.cell? ⟨pf, 0, none⟩ = some (.int .i64 kz)) (q1 : w0.cell? ⟨pf, 1, none⟩ = some (.int .i64 L)) (q2 : w0.cell? ⟨pg, 1, none⟩ = some (.int .i64 L2)) {x0 x1 x4 x5 x6 x7 x9 x10 x12 x13 x14 x15 x16 x17 x18 x19 x20 x21 x22 x23 x24 x25 x26 x27 x28 x29 x30 x31 x32 x33 x34 x35 x36 x37 x38 x39 x40 x41 x42 x43 x44 x45 x46 x47 x48 x49 x60 x61 x62 x63 x64 x65 x66 x67 x68 x69 x70 x71 x72 x73 x74 x75 x76 x77 x78 x79 x80 x81 x82 x83 x84 x85 x86 x87 x88 x89 x90 x91 x92 x93 x94 x95 x96 x97 x98 x99 x100 x101 x102 x103 x104 x105 : Value} {df : List Deferred} {Q : Exit → Act → World → Prop} (hQp : ∀ c (a : Act) d v w, Q (.panic c) (a.put d v) w → Q (.panic c) a w)
    (hfin : ∀ (AC : Option Addr) (cC gy : Nat) (z : World), Blk z gy 24 #[.int .i64 kz, .int .i64 (L + L2), .slice AC N cC] → Own z w0.heap.size 40 2 AC N cC (prs M) → w0.heap.size ≤ gy → Below w0.heap.size w0 z → Q .normal { tmps := #[x0, x1, .pointer (some ⟨pf, 0, none⟩), .pointer (some ⟨pg, 0, none⟩), x4, x5, x6, x7, .slice A' N c', x9, x10, .pointer (some ⟨gy, 0, none⟩), x12, x13, x14, x15, x16, x17, x18, x19, x20, x21, x22, x23, x24, x25, x26, x27, x28, x29, x30, x31, x32, x33, x34, x35, x36, x37, x38, x39, x40, x41, x42, x43, x44, x45, x46, x47, x48, x49, .pointer (some ⟨pf, 0, none⟩), .int .i64 kz, .pointer (some ⟨pf, 1, none⟩), .int .i64 L, .pointer (some ⟨pg, 1, none⟩), .int .i64 L2, .int .i64 (L + L2), .slice A' N c', .slice AC N cC, .agg #[.int .i64 kz, .int .i64 (L + L2), .slice AC N cC], x60, x61, x62, x63, x64, x65, x66, x67, x68, x69, x70, x71, x72, x73, x74, x75, x76, x77, x78, x79, x80, x81, x82, x83, x84, x85, x86, x87, x88, x89, x90, x91, x92, x93, x94, x95, x96, x97, x98, x99, x100, x101, x102, x103, x104, x105], defers := df } z)
    {AC : Option Addr} {cC : Nat} {gy : Nat} {kk : Nat} {ll : Array Bool} {aa : Act} {W : World} (hk : kk = 1) (hl : ll = #[true, true, true, true, true, true, true, true, true, true, true, false])
    (ha : aa = { tmps := #[x0, x1, .pointer (some ⟨pf, 0, none⟩), .pointer (some ⟨pg, 0, none⟩), x4, x5, x6, x7, .slice A' N c', x9, x10, .pointer (some ⟨gy, 0, none⟩), x12, x13, x14, x15, x16, x17, x18, x19, x20, x21, x22, x23, x24, x25, x26, x27, x28, x29, x30, x31, x32, x33, x34, x35, x36, x37, x38, x39, x40, x41, x42, x43, x44, x45, x46, x47, x48, x49, .pointer (some ⟨pf, 0, none⟩), .int .i64 kz, .pointer (some ⟨pf, 1, none⟩), .int .i64 L, .pointer (some ⟨pg, 1, none⟩), .int .i64 L2, .int .i64 (L + L2), .slice A' N c', .slice AC N cC, .agg #[.int .i64 kz, .int .i64 (L + L2), .slice AC N cC], x60, x61, x62, x63, x64, x65, x66, x67, x68, x69, x70, x71, x72, x73, x74, x75, x76, x77, x78, x79, x80, x81, x82, x83, x84, x85, x86, x87, x88, x89, x90, x91, x92, x93, x94, x95, x96, x97, x98, x99, x100, x101, x102, x103, x104, x105], defers := df })
    (kb : Below w0.heap.size w0 W) (oC : Own W w0.heap.size 40 2 AC N cC (prs M)) (bY : Blk W gy 24 #[.int .i64 0, .int .i64 0, .slice none 0 0]) (hgy : w0.heap.size ≤ gy) :
    anyTill Tryz.prog .any joinreg_ops Q (Till (fun w' => w'.cell? ⟨pf, 0, none⟩ = some (.int .i64 kz) ∧ w'.cell? ⟨pf, 1, none⟩ = some (.int .i64 L) ∧ w'.cell? ⟨pg, 1, none⟩ = some (.int .i64 L2)) (fun _ => True) []) kk ll aa W := by
  subst hk hl ha
  refine anyTill.ready (rs := [11]) (by kernel_rfl) (by simp) ?_
  refine AllTill.cons (o := { dst := none, op := Op.store 24 (Operand.tmp 11) (Operand.tmp 59), type := 0, pos := "few.go:110", after := #[{ on := 10, ground := Ground.data }, { on := 9, ground := Ground.data }, { on := 8, ground := Ground.chain }, { on := 0, ground := Ground.phase }, { on := 1, ground := Ground.phase }, { on := 2, ground := Ground.phase }, { on := 3, ground := Ground.phase }, { on := 4, ground := Ground.phase }, { on := 5, ground := Ground.phase }, { on := 6, ground := Ground.phase }, { on := 7, ground := Ground.phase }, { on := 8, ground := Ground.phase }, { on := 9, ground := Ground.phase }, { on := 10, ground := Ground.phase }], guard := none }) rfl (fun K hK => ?_) AllTill.nil
  · have fr0 := bY.free 0
    have fr1 := bY.free 1
    have fr2 := bY.free 2
    have fc0 := bY.at_ (i := 0) rfl
    have fc1 := bY.at_ (i := 1) rfl
    have fc2 := bY.at_ (i := 2) rfl
    go_simp
    refine at_world ?_
    intro z hz
    have n_kb : Below w0.heap.size w0 z := by rw [hz]; repeat' (first | assumption | with_reducible exact Below.refl _ _ | with_reducible apply Below.drew | with_reducible apply below_drewN | with_reducible apply below_alloc | with_reducible refine below_set ?_ ?_ _ | (simp only [World.size_alloc, World.heap_drewN]; omega) | (simp; omega))
    have bS : Blk z gy 24 #[.int .i64 kz, .int .i64 (L + L2), .slice AC N cC] := by rw [hz]; have t := ((bY.set 0 (.int .i64 kz)).set 1 (.int .i64 (L + L2))).set 2 (.slice AC N cC); simp at t; exact t
    have oS := few_store (u0 := .int .i64 kz) (u1 := .int .i64 (L + L2)) (u2 := .slice AC N cC) oC bY
    have o2S : Own z w0.heap.size 40 2 AC N cC (prs M) := by rw [hz]; exact oS
    refine hK.out _ _ (Till.over (by rfl) (by (refine ⟨kept (B := w0.heap.size) (p := ⟨pf, 0, none⟩) hpl q0 ?_, kept (B := w0.heap.size) (p := ⟨pf, 1, none⟩) hpl q1 ?_, kept (B := w0.heap.size) (p := ⟨pg, 1, none⟩) hpg q2 ?_⟩ <;> repeat' (first | assumption | with_reducible exact Below.refl _ _ | with_reducible apply Below.drew | with_reducible apply below_drewN | with_reducible apply below_alloc | with_reducible refine below_set ?_ ?_ _ | (simp only [World.size_alloc, World.heap_drewN]; omega) | (simp; omega))))) (fun hS => ?_)
    clear hK K
    try simp only [Act.put, List.setIfInBounds_toArray, List.set_cons_zero, List.set_cons_succ]
    refine anyTill.fin (by kernel_rfl) ?_ _
    exact hfin _ _ _ _ bS o2S hgy n_kb
set_option maxRecDepth 100000 in
set_option maxHeartbeats 3200000 in
theorem joinreg_8 {w0 : World} {A' : Option Addr} {N c' pf pg : Nat} {M : List Ct} {kz L L2 : Int} (hs : Sp w0 A' N c' M) (hN : N ≤ 40) (ez : IntKind.i64.wrap (L + L2) = L + L2) (hpl : pf < w0.heap.size) (hpg : pg < w0.heap.size) (q0 : w0.cell? ⟨pf, 0, none⟩ = some (.int .i64 kz)) (q1 : w0.cell? ⟨pf, 1, none⟩ = some (.int .i64 L)) (q2 : w0.cell? ⟨pg, 1, none⟩ = some (.int .i64 L2)) {x0 x1 x4 x5 x6 x7 x9 x10 x11 x12 x13 x14 x15 x16 x17 x18 x19 x20 x21 x22 x23 x24 x25 x26 x27 x28 x29 x30 x31 x32 x33 x34 x35 x36 x37 x38 x39 x40 x41 x42 x43 x44 x45 x46 x47 x48 x49 x60 x61 x62 x63 x64 x65 x66 x67 x68 x69 x70 x71 x72 x73 x74 x75 x76 x77 x78 x79 x80 x81 x82 x83 x84 x85 x86 x87 x88 x89 x90 x91 x92 x93 x94 x95 x96 x97 x98 x99 x100 x101 x102 x103 x104 x105 : Value} {df : List Deferred} {Q : Exit → Act → World → Prop} (hQp : ∀ c (a : Act) d v w, Q (.panic c) (a.put d v) w → Q (.panic c) a w)
    (hfin : ∀ (AC : Option Addr) (cC gy : Nat) (z : World), Blk z gy 24 #[.int .i64 kz, .int .i64 (L + L2), .slice AC N cC] → Own z w0.heap.size 40 2 AC N cC (prs M) → w0.heap.size ≤ gy → Below w0.heap.size w0 z → Q .normal { tmps := #[x0, x1, .pointer (some ⟨pf, 0, none⟩), .pointer (some ⟨pg, 0, none⟩), x4, x5, x6, x7, .slice A' N c', x9, x10, .pointer (some ⟨gy, 0, none⟩), x12, x13, x14, x15, x16, x17, x18, x19, x20, x21, x22, x23, x24, x25, x26, x27, x28, x29, x30, x31, x32, x33, x34, x35, x36, x37, x38, x39, x40, x41, x42, x43, x44, x45, x46, x47, x48, x49, .pointer (some ⟨pf, 0, none⟩), .int .i64 kz, .pointer (some ⟨pf, 1, none⟩), .int .i64 L, .pointer (some ⟨pg, 1, none⟩), .int .i64 L2, .int .i64 (L + L2), .slice A' N c', .slice AC N cC, .agg #[.int .i64 kz, .int .i64 (L + L2), .slice AC N cC], x60, x61, x62, x63, x64, x65, x66, x67, x68, x69, x70, x71, x72, x73, x74, x75, x76, x77, x78, x79, x80, x81, x82, x83, x84, x85, x86, x87, x88, x89, x90, x91, x92, x93, x94, x95, x96, x97, x98, x99, x100, x101, x102, x103, x104, x105], defers := df } z)
    {AC : Option Addr} {cC : Nat} {kk : Nat} {ll : Array Bool} {aa : Act} {W : World} (hk : kk = 2) (hl : ll = #[true, true, true, true, true, true, true, true, true, true, false, false])
    (ha : aa = { tmps := #[x0, x1, .pointer (some ⟨pf, 0, none⟩), .pointer (some ⟨pg, 0, none⟩), x4, x5, x6, x7, .slice A' N c', x9, x10, x11, x12, x13, x14, x15, x16, x17, x18, x19, x20, x21, x22, x23, x24, x25, x26, x27, x28, x29, x30, x31, x32, x33, x34, x35, x36, x37, x38, x39, x40, x41, x42, x43, x44, x45, x46, x47, x48, x49, .pointer (some ⟨pf, 0, none⟩), .int .i64 kz, .pointer (some ⟨pf, 1, none⟩), .int .i64 L, .pointer (some ⟨pg, 1, none⟩), .int .i64 L2, .int .i64 (L + L2), .slice A' N c', .slice AC N cC, .agg #[.int .i64 kz, .int .i64 (L + L2), .slice AC N cC], x60, x61, x62, x63, x64, x65, x66, x67, x68, x69, x70, x71, x72, x73, x74, x75, x76, x77, x78, x79, x80, x81, x82, x83, x84, x85, x86, x87, x88, x89, x90, x91, x92, x93, x94, x95, x96, x97, x98, x99, x100, x101, x102, x103, x104, x105], defers := df })
    (kb : Below w0.heap.size w0 W) (oC : Own W w0.heap.size 40 2 AC N cC (prs M)) :
    anyTill Tryz.prog .any joinreg_ops Q (Till (fun w' => w'.cell? ⟨pf, 0, none⟩ = some (.int .i64 kz) ∧ w'.cell? ⟨pf, 1, none⟩ = some (.int .i64 L) ∧ w'.cell? ⟨pg, 1, none⟩ = some (.int .i64 L2)) (fun _ => True) []) kk ll aa W := by
  subst hk hl ha
  refine anyTill.ready (rs := [10]) (by kernel_rfl) (by simp) ?_
  refine AllTill.cons (o := { dst := some 11, op := Op.alloc 24, type := 0, pos := "few.go:110", after := #[], guard := none }) rfl (fun K hK => ?_) AllTill.nil
  · go_simp
    refine at_world ?_
    intro z hz
    have ke : Below W.heap.size W z := by rw [hz]; repeat' (first | assumption | with_reducible exact Below.refl _ _ | with_reducible apply Below.drew | with_reducible apply below_drewN | with_reducible apply below_alloc | with_reducible refine below_set ?_ ?_ _ | (simp only [World.size_alloc, World.heap_drewN]; omega) | (simp; omega))
    have hsz := kb.size
    have n_kb : Below w0.heap.size w0 z := below_on kb ke
    have n_oC : Own z w0.heap.size 40 2 AC N cC (prs M) := (oC).below ke (Nat.le_refl _)
    have n_bY : Blk z W.heap.size 24 #[.int .i64 0, .int .i64 0, .slice none 0 0] := by rw [hz]; exact Blk.new _ _ _
    have n_hgy : w0.heap.size ≤ W.heap.size := by first | exact hsz | (simp; omega)
    refine hK.out _ _ (Till.over (by rfl) (by (refine ⟨kept (B := w0.heap.size) (p := ⟨pf, 0, none⟩) hpl q0 ?_, kept (B := w0.heap.size) (p := ⟨pf, 1, none⟩) hpl q1 ?_, kept (B := w0.heap.size) (p := ⟨pg, 1, none⟩) hpg q2 ?_⟩ <;> repeat' (first | assumption | with_reducible exact Below.refl _ _ | with_reducible apply Below.drew | with_reducible apply below_drewN | with_reducible apply below_alloc | with_reducible refine below_set ?_ ?_ _ | (simp only [World.size_alloc, World.heap_drewN]; omega) | (simp; omega))))) (fun hS => ?_)
    clear hK K
    try simp only [Act.put, List.setIfInBounds_toArray, List.set_cons_zero, List.set_cons_succ]
    exact joinreg_8_10 hs hN ez hpl hpg q0 q1 q2 hQp hfin (by rfl) (by kernel_rfl) (by rfl) n_kb n_oC n_bY n_hgy
set_option maxRecDepth 100000 in
set_option maxHeartbeats 3200000 in
theorem joinreg_10 {w0 : World} {A' : Option Addr} {N c' pf pg : Nat} {M : List Ct} {kz L L2 : Int} (hs : Sp w0 A' N c' M) (hN : N ≤ 40) (ez : IntKind.i64.wrap (L + L2) = L + L2) (hpl : pf < w0.heap.size) (hpg : pg < w0.heap.size) (q0 : w0.cell? ⟨pf, 0, none⟩ = some (.int .i64 kz)) (q1 : w0.cell? ⟨pf, 1, none⟩ = some (.int .i64 L)) (q2 : w0.cell? ⟨pg, 1, none⟩ = some (.int .i64 L2)) {x0 x1 x4 x5 x6 x7 x9 x10 x12 x13 x14 x15 x16 x17 x18 x19 x20 x21 x22 x23 x24 x25 x26 x27 x28 x29 x30 x31 x32 x33 x34 x35 x36 x37 x38 x39 x40 x41 x42 x43 x44 x45 x46 x47 x48 x49 x58 x59 x60 x61 x62 x63 x64 x65 x66 x67 x68 x69 x70 x71 x72 x73 x74 x75 x76 x77 x78 x79 x80 x81 x82 x83 x84 x85 x86 x87 x88 x89 x90 x91 x92 x93 x94 x95 x96 x97 x98 x99 x100 x101 x102 x103 x104 x105 : Value} {df : List Deferred} {Q : Exit → Act → World → Prop} (hQp : ∀ c (a : Act) d v w, Q (.panic c) (a.put d v) w → Q (.panic c) a w)
    (hfin : ∀ (AC : Option Addr) (cC gy : Nat) (z : World), Blk z gy 24 #[.int .i64 kz, .int .i64 (L + L2), .slice AC N cC] → Own z w0.heap.size 40 2 AC N cC (prs M) → w0.heap.size ≤ gy → Below w0.heap.size w0 z → Q .normal { tmps := #[x0, x1, .pointer (some ⟨pf, 0, none⟩), .pointer (some ⟨pg, 0, none⟩), x4, x5, x6, x7, .slice A' N c', x9, x10, .pointer (some ⟨gy, 0, none⟩), x12, x13, x14, x15, x16, x17, x18, x19, x20, x21, x22, x23, x24, x25, x26, x27, x28, x29, x30, x31, x32, x33, x34, x35, x36, x37, x38, x39, x40, x41, x42, x43, x44, x45, x46, x47, x48, x49, .pointer (some ⟨pf, 0, none⟩), .int .i64 kz, .pointer (some ⟨pf, 1, none⟩), .int .i64 L, .pointer (some ⟨pg, 1, none⟩), .int .i64 L2, .int .i64 (L + L2), .slice A' N c', .slice AC N cC, .agg #[.int .i64 kz, .int .i64 (L + L2), .slice AC N cC], x60, x61, x62, x63, x64, x65, x66, x67, x68, x69, x70, x71, x72, x73, x74, x75, x76, x77, x78, x79, x80, x81, x82, x83, x84, x85, x86, x87, x88, x89, x90, x91, x92, x93, x94, x95, x96, x97, x98, x99, x100, x101, x102, x103, x104, x105], defers := df } z)
    {gy : Nat} {kk : Nat} {ll : Array Bool} {aa : Act} {W : World} (hk : kk = 3) (hl : ll = #[true, true, true, true, true, true, true, true, false, false, true, false])
    (ha : aa = { tmps := #[x0, x1, .pointer (some ⟨pf, 0, none⟩), .pointer (some ⟨pg, 0, none⟩), x4, x5, x6, x7, .slice A' N c', x9, x10, .pointer (some ⟨gy, 0, none⟩), x12, x13, x14, x15, x16, x17, x18, x19, x20, x21, x22, x23, x24, x25, x26, x27, x28, x29, x30, x31, x32, x33, x34, x35, x36, x37, x38, x39, x40, x41, x42, x43, x44, x45, x46, x47, x48, x49, .pointer (some ⟨pf, 0, none⟩), .int .i64 kz, .pointer (some ⟨pf, 1, none⟩), .int .i64 L, .pointer (some ⟨pg, 1, none⟩), .int .i64 L2, .int .i64 (L + L2), .slice A' N c', x58, x59, x60, x61, x62, x63, x64, x65, x66, x67, x68, x69, x70, x71, x72, x73, x74, x75, x76, x77, x78, x79, x80, x81, x82, x83, x84, x85, x86, x87, x88, x89, x90, x91, x92, x93, x94, x95, x96, x97, x98, x99, x100, x101, x102, x103, x104, x105], defers := df })
    (kb : Below w0.heap.size w0 W) (bY : Blk W gy 24 #[.int .i64 0, .int .i64 0, .slice none 0 0]) (hgy : w0.heap.size ≤ gy) :
    anyTill Tryz.prog .any joinreg_ops Q (Till (fun w' => w'.cell? ⟨pf, 0, none⟩ = some (.int .i64 kz) ∧ w'.cell? ⟨pf, 1, none⟩ = some (.int .i64 L) ∧ w'.cell? ⟨pg, 1, none⟩ = some (.int .i64 L2)) (fun _ => True) []) kk ll aa W := by
  subst hk hl ha
  refine anyTill.ready (rs := [8]) (by kernel_rfl) (by simp) ?_
  refine AllTill.cons (o := { dst := some 58, op := Op.call { callee := Callee.value (Operand.func 14), args := #[Operand.tmp 57], argTypes := #[22] }, type := 22, pos := "few.go:110", after := #[{ on := 7, ground := Ground.data }], guard := none }) rfl (fun K hK => ?_) AllTill.nil
  · go_wp2_with fail
    go_at_call 14
    refine (cloneC (hs.on (below_on kb (by repeat' (first | assumption | with_reducible exact Below.refl _ _ | with_reducible apply Below.drew | with_reducible apply below_drewN | with_reducible apply below_alloc | with_reducible refine below_set ?_ ?_ _ | (simp only [World.size_alloc, World.heap_drewN]; omega) | (simp; omega))))) (by omega)).mono ?_
    rintro e z ⟨AC, cC, rfl, oC, be⟩
    have ke : Below W.heap.size W z := below_on (by repeat' (first | assumption | with_reducible exact Below.refl _ _ | with_reducible apply Below.drew | with_reducible apply below_drewN | with_reducible apply below_alloc | with_reducible refine below_set ?_ ?_ _ | (simp only [World.size_alloc, World.heap_drewN]; omega) | (simp; omega))) be
    have n_kb : Below w0.heap.size w0 z := below_on kb ke
    have hsz := kb.size
    have n_oC : Own z w0.heap.size 40 2 AC N cC (prs M) := oC.mono (by first | exact hsz | (simp; omega))
    have n_bY : Blk z gy 24 #[.int .i64 0, .int .i64 0, .slice none 0 0] := (bY).below ke (bY).lt
    have n_hgy : w0.heap.size ≤ gy := hgy
    refine hK.out _ _ (Till.over (by rfl) (by (refine ⟨kept (B := w0.heap.size) (p := ⟨pf, 0, none⟩) hpl q0 ?_, kept (B := w0.heap.size) (p := ⟨pf, 1, none⟩) hpl q1 ?_, kept (B := w0.heap.size) (p := ⟨pg, 1, none⟩) hpg q2 ?_⟩ <;> repeat' (first | assumption | with_reducible exact Below.refl _ _ | with_reducible apply Below.drew | with_reducible apply below_drewN | with_reducible apply below_alloc | with_reducible refine below_set ?_ ?_ _ | (simp only [World.size_alloc, World.heap_drewN]; omega) | (simp; omega))))) (fun hS => ?_)
    clear hK K
    try simp only [Act.put, List.setIfInBounds_toArray, List.set_cons_zero, List.set_cons_succ]
    refine anyTill.last (i := 9) (oi := { dst := some 59, op := Op.build 24 #[(0, Operand.tmp 51), (1, Operand.tmp 56), (2, Operand.tmp 58)], type := 24, pos := "few.go:110", after := #[{ on := 1, ground := Ground.data }, { on := 6, ground := Ground.data }, { on := 8, ground := Ground.data }], guard := none }) (v := ?_) rfl (by kernel_rfl) (by kernel_rfl) (by kernel_rfl) (fun _ _ _ h => hQp _ _ _ _ _ h) (by rfl) (Or.inl ⟨by rfl, ?_⟩) hS (fun hS => ?_)
    rotate_left
    · (intro w hSw; (try dsimp only at hSw); go_split_ands; go_simp; try with_reducible rfl)
    try simp only [Act.put, List.setIfInBounds_toArray, List.set_cons_zero, List.set_cons_succ]
    exact joinreg_8_10 hs hN ez hpl hpg q0 q1 q2 hQp hfin (by rfl) (by kernel_rfl) (by rfl) n_kb n_oC n_bY n_hgy
set_option maxRecDepth 100000 in
set_option maxHeartbeats 3200000 in
theorem joinreg_o {w0 : World} {A' : Option Addr} {N c' pf pg : Nat} {M : List Ct} {kz L L2 : Int} (hs : Sp w0 A' N c' M) (hN : N ≤ 40) (ez : IntKind.i64.wrap (L + L2) = L + L2) (hpl : pf < w0.heap.size) (hpg : pg < w0.heap.size) (q0 : w0.cell? ⟨pf, 0, none⟩ = some (.int .i64 kz)) (q1 : w0.cell? ⟨pf, 1, none⟩ = some (.int .i64 L)) (q2 : w0.cell? ⟨pg, 1, none⟩ = some (.int .i64 L2)) {x0 x1 x4 x5 x6 x7 x9 x10 x11 x12 x13 x14 x15 x16 x17 x18 x19 x20 x21 x22 x23 x24 x25 x26 x27 x28 x29 x30 x31 x32 x33 x34 x35 x36 x37 x38 x39 x40 x41 x42 x43 x44 x45 x46 x47 x48 x49 x58 x59 x60 x61 x62 x63 x64 x65 x66 x67 x68 x69 x70 x71 x72 x73 x74 x75 x76 x77 x78 x79 x80 x81 x82 x83 x84 x85 x86 x87 x88 x89 x90 x91 x92 x93 x94 x95 x96 x97 x98 x99 x100 x101 x102 x103 x104 x105 : Value} {df : List Deferred} {Q : Exit → Act → World → Prop} (hQp : ∀ c (a : Act) d v w, Q (.panic c) (a.put d v) w → Q (.panic c) a w)
    (hfin : ∀ (AC : Option Addr) (cC gy : Nat) (z : World), Blk z gy 24 #[.int .i64 kz, .int .i64 (L + L2), .slice AC N cC] → Own z w0.heap.size 40 2 AC N cC (prs M) → w0.heap.size ≤ gy → Below w0.heap.size w0 z → Q .normal { tmps := #[x0, x1, .pointer (some ⟨pf, 0, none⟩), .pointer (some ⟨pg, 0, none⟩), x4, x5, x6, x7, .slice A' N c', x9, x10, .pointer (some ⟨gy, 0, none⟩), x12, x13, x14, x15, x16, x17, x18, x19, x20, x21, x22, x23, x24, x25, x26, x27, x28, x29, x30, x31, x32, x33, x34, x35, x36, x37, x38, x39, x40, x41, x42, x43, x44, x45, x46, x47, x48, x49, .pointer (some ⟨pf, 0, none⟩), .int .i64 kz, .pointer (some ⟨pf, 1, none⟩), .int .i64 L, .pointer (some ⟨pg, 1, none⟩), .int .i64 L2, .int .i64 (L + L2), .slice A' N c', .slice AC N cC, .agg #[.int .i64 kz, .int .i64 (L + L2), .slice AC N cC], x60, x61, x62, x63, x64, x65, x66, x67, x68, x69, x70, x71, x72, x73, x74, x75, x76, x77, x78, x79, x80, x81, x82, x83, x84, x85, x86, x87, x88, x89, x90, x91, x92, x93, x94, x95, x96, x97, x98, x99, x100, x101, x102, x103, x104, x105], defers := df } z)
     {kk : Nat} {ll : Array Bool} {aa : Act} {W : World} (hk : kk = 4) (hl : ll = #[true, true, true, true, true, true, true, true, false, false, false, false])
    (ha : aa = { tmps := #[x0, x1, .pointer (some ⟨pf, 0, none⟩), .pointer (some ⟨pg, 0, none⟩), x4, x5, x6, x7, .slice A' N c', x9, x10, x11, x12, x13, x14, x15, x16, x17, x18, x19, x20, x21, x22, x23, x24, x25, x26, x27, x28, x29, x30, x31, x32, x33, x34, x35, x36, x37, x38, x39, x40, x41, x42, x43, x44, x45, x46, x47, x48, x49, .pointer (some ⟨pf, 0, none⟩), .int .i64 kz, .pointer (some ⟨pf, 1, none⟩), .int .i64 L, .pointer (some ⟨pg, 1, none⟩), .int .i64 L2, .int .i64 (L + L2), .slice A' N c', x58, x59, x60, x61, x62, x63, x64, x65, x66, x67, x68, x69, x70, x71, x72, x73, x74, x75, x76, x77, x78, x79, x80, x81, x82, x83, x84, x85, x86, x87, x88, x89, x90, x91, x92, x93, x94, x95, x96, x97, x98, x99, x100, x101, x102, x103, x104, x105], defers := df })
    (kb : Below w0.heap.size w0 W) :
    anyTill Tryz.prog .any joinreg_ops Q (Till (fun w' => w'.cell? ⟨pf, 0, none⟩ = some (.int .i64 kz) ∧ w'.cell? ⟨pf, 1, none⟩ = some (.int .i64 L) ∧ w'.cell? ⟨pg, 1, none⟩ = some (.int .i64 L2)) (fun _ => True) []) kk ll aa W := by
  subst hk hl ha
  refine anyTill.ready (rs := [8, 10]) (by kernel_rfl) (by simp) ?_
  refine AllTill.cons (o := { dst := some 58, op := Op.call { callee := Callee.value (Operand.func 14), args := #[Operand.tmp 57], argTypes := #[22] }, type := 22, pos := "few.go:110", after := #[{ on := 7, ground := Ground.data }], guard := none }) rfl (fun K hK => ?_) (AllTill.cons (o := { dst := some 11, op := Op.alloc 24, type := 0, pos := "few.go:110", after := #[], guard := none }) rfl (fun K hK => ?_) AllTill.nil)
  · go_wp2_with fail
    go_at_call 14
    refine (cloneC (hs.on (below_on kb (by repeat' (first | assumption | with_reducible exact Below.refl _ _ | with_reducible apply Below.drew | with_reducible apply below_drewN | with_reducible apply below_alloc | with_reducible refine below_set ?_ ?_ _ | (simp only [World.size_alloc, World.heap_drewN]; omega) | (simp; omega))))) (by omega)).mono ?_
    rintro e z ⟨AC, cC, rfl, oC, be⟩
    have ke : Below W.heap.size W z := below_on (by repeat' (first | assumption | with_reducible exact Below.refl _ _ | with_reducible apply Below.drew | with_reducible apply below_drewN | with_reducible apply below_alloc | with_reducible refine below_set ?_ ?_ _ | (simp only [World.size_alloc, World.heap_drewN]; omega) | (simp; omega))) be
    have n_kb : Below w0.heap.size w0 z := below_on kb ke
    have hsz := kb.size
    have n_oC : Own z w0.heap.size 40 2 AC N cC (prs M) := oC.mono (by first | exact hsz | (simp; omega))
    refine hK.out _ _ (Till.over (by rfl) (by (refine ⟨kept (B := w0.heap.size) (p := ⟨pf, 0, none⟩) hpl q0 ?_, kept (B := w0.heap.size) (p := ⟨pf, 1, none⟩) hpl q1 ?_, kept (B := w0.heap.size) (p := ⟨pg, 1, none⟩) hpg q2 ?_⟩ <;> repeat' (first | assumption | with_reducible exact Below.refl _ _ | with_reducible apply Below.drew | with_reducible apply below_drewN | with_reducible apply below_alloc | with_reducible refine below_set ?_ ?_ _ | (simp only [World.size_alloc, World.heap_drewN]; omega) | (simp; omega))))) (fun hS => ?_)
    clear hK K
    try simp only [Act.put, List.setIfInBounds_toArray, List.set_cons_zero, List.set_cons_succ]
    refine anyTill.last (i := 9) (oi := { dst := some 59, op := Op.build 24 #[(0, Operand.tmp 51), (1, Operand.tmp 56), (2, Operand.tmp 58)], type := 24, pos := "few.go:110", after := #[{ on := 1, ground := Ground.data }, { on := 6, ground := Ground.data }, { on := 8, ground := Ground.data }], guard := none }) (v := ?_) rfl (by kernel_rfl) (by kernel_rfl) (by kernel_rfl) (fun _ _ _ h => hQp _ _ _ _ _ h) (by rfl) (Or.inl ⟨by rfl, ?_⟩) hS (fun hS => ?_)
    rotate_left
    · (intro w hSw; (try dsimp only at hSw); go_split_ands; go_simp; try with_reducible rfl)
    try simp only [Act.put, List.setIfInBounds_toArray, List.set_cons_zero, List.set_cons_succ]
    exact joinreg_8 hs hN ez hpl hpg q0 q1 q2 hQp hfin (by rfl) (by kernel_rfl) (by rfl) n_kb n_oC
  · go_simp
    refine at_world ?_
    intro z hz
    have ke : Below W.heap.size W z := by rw [hz]; repeat' (first | assumption | with_reducible exact Below.refl _ _ | with_reducible apply Below.drew | with_reducible apply below_drewN | with_reducible apply below_alloc | with_reducible refine below_set ?_ ?_ _ | (simp only [World.size_alloc, World.heap_drewN]; omega) | (simp; omega))
    have hsz := kb.size
    have n_kb : Below w0.heap.size w0 z := below_on kb ke
    have n_bY : Blk z W.heap.size 24 #[.int .i64 0, .int .i64 0, .slice none 0 0] := by rw [hz]; exact Blk.new _ _ _
    have n_hgy : w0.heap.size ≤ W.heap.size := by first | exact hsz | (simp; omega)
    refine hK.out _ _ (Till.over (by rfl) (by (refine ⟨kept (B := w0.heap.size) (p := ⟨pf, 0, none⟩) hpl q0 ?_, kept (B := w0.heap.size) (p := ⟨pf, 1, none⟩) hpl q1 ?_, kept (B := w0.heap.size) (p := ⟨pg, 1, none⟩) hpg q2 ?_⟩ <;> repeat' (first | assumption | with_reducible exact Below.refl _ _ | with_reducible apply Below.drew | with_reducible apply below_drewN | with_reducible apply below_alloc | with_reducible refine below_set ?_ ?_ _ | (simp only [World.size_alloc, World.heap_drewN]; omega) | (simp; omega))))) (fun hS => ?_)
    clear hK K
    try simp only [Act.put, List.setIfInBounds_toArray, List.set_cons_zero, List.set_cons_succ]
    exact joinreg_10 hs hN ez hpl hpg q0 q1 q2 hQp hfin (by rfl) (by kernel_rfl) (by rfl) n_kb n_bY n_hgy
set_option maxRecDepth 100000 in
set_option maxHeartbeats 3200000 in
theorem joinreg_start {w0 : World} {A' : Option Addr} {N c' pf pg : Nat} {M : List Ct} {kz L L2 : Int} (hs : Sp w0 A' N c' M) (hN : N ≤ 40) (ez : IntKind.i64.wrap (L + L2) = L + L2) (hpl : pf < w0.heap.size) (hpg : pg < w0.heap.size) (q0 : w0.cell? ⟨pf, 0, none⟩ = some (.int .i64 kz)) (q1 : w0.cell? ⟨pf, 1, none⟩ = some (.int .i64 L)) (q2 : w0.cell? ⟨pg, 1, none⟩ = some (.int .i64 L2)) {x0 x1 x4 x5 x6 x7 x9 x10 x11 x12 x13 x14 x15 x16 x17 x18 x19 x20 x21 x22 x23 x24 x25 x26 x27 x28 x29 x30 x31 x32 x33 x34 x35 x36 x37 x38 x39 x40 x41 x42 x43 x44 x45 x46 x47 x48 x49 x50 x51 x52 x53 x54 x55 x56 x57 x58 x59 x60 x61 x62 x63 x64 x65 x66 x67 x68 x69 x70 x71 x72 x73 x74 x75 x76 x77 x78 x79 x80 x81 x82 x83 x84 x85 x86 x87 x88 x89 x90 x91 x92 x93 x94 x95 x96 x97 x98 x99 x100 x101 x102 x103 x104 x105 : Value} {df : List Deferred} {Q : Exit → Act → World → Prop} (hQp : ∀ c (a : Act) d v w, Q (.panic c) (a.put d v) w → Q (.panic c) a w)
    (hfin : ∀ (AC : Option Addr) (cC gy : Nat) (z : World), Blk z gy 24 #[.int .i64 kz, .int .i64 (L + L2), .slice AC N cC] → Own z w0.heap.size 40 2 AC N cC (prs M) → w0.heap.size ≤ gy → Below w0.heap.size w0 z → Q .normal { tmps := #[x0, x1, .pointer (some ⟨pf, 0, none⟩), .pointer (some ⟨pg, 0, none⟩), x4, x5, x6, x7, .slice A' N c', x9, x10, .pointer (some ⟨gy, 0, none⟩), x12, x13, x14, x15, x16, x17, x18, x19, x20, x21, x22, x23, x24, x25, x26, x27, x28, x29, x30, x31, x32, x33, x34, x35, x36, x37, x38, x39, x40, x41, x42, x43, x44, x45, x46, x47, x48, x49, .pointer (some ⟨pf, 0, none⟩), .int .i64 kz, .pointer (some ⟨pf, 1, none⟩), .int .i64 L, .pointer (some ⟨pg, 1, none⟩), .int .i64 L2, .int .i64 (L + L2), .slice A' N c', .slice AC N cC, .agg #[.int .i64 kz, .int .i64 (L + L2), .slice AC N cC], x60, x61, x62, x63, x64, x65, x66, x67, x68, x69, x70, x71, x72, x73, x74, x75, x76, x77, x78, x79, x80, x81, x82, x83, x84, x85, x86, x87, x88, x89, x90, x91, x92, x93, x94, x95, x96, x97, x98, x99, x100, x101, x102, x103, x104, x105], defers := df } z)
     {kk : Nat} {ll : Array Bool} {aa : Act} {W : World} (hk : kk = 12) (hl : ll = #[false, false, false, false, false, false, false, false, false, false, false, false])
    (ha : aa = { tmps := #[x0, x1, .pointer (some ⟨pf, 0, none⟩), .pointer (some ⟨pg, 0, none⟩), x4, x5, x6, x7, .slice A' N c', x9, x10, x11, x12, x13, x14, x15, x16, x17, x18, x19, x20, x21, x22, x23, x24, x25, x26, x27, x28, x29, x30, x31, x32, x33, x34, x35, x36, x37, x38, x39, x40, x41, x42, x43, x44, x45, x46, x47, x48, x49, x50, x51, x52, x53, x54, x55, x56, x57, x58, x59, x60, x61, x62, x63, x64, x65, x66, x67, x68, x69, x70, x71, x72, x73, x74, x75, x76, x77, x78, x79, x80, x81, x82, x83, x84, x85, x86, x87, x88, x89, x90, x91, x92, x93, x94, x95, x96, x97, x98, x99, x100, x101, x102, x103, x104, x105], defers := df })
    (kb : Below w0.heap.size w0 W) :
    anyTill Tryz.prog .any joinreg_ops Q (Till (fun w' => w'.cell? ⟨pf, 0, none⟩ = some (.int .i64 kz) ∧ w'.cell? ⟨pf, 1, none⟩ = some (.int .i64 L) ∧ w'.cell? ⟨pg, 1, none⟩ = some (.int .i64 L2)) (fun _ => True) []) kk ll aa W := by
  subst hk hl ha
  refine anyTill.last (i := 0) (oi := { dst := some 50, op := Op.fieldAddr 24 (Operand.tmp 2) 0, type := 0, pos := "few.go:110", after := #[], guard := none }) (v := ?_) rfl (by kernel_rfl) (by kernel_rfl) (by kernel_rfl) (fun _ _ _ h => hQp _ _ _ _ _ h) (by rfl) (Or.inl ⟨by rfl, ?_⟩) ⟨by (refine ⟨kept (B := w0.heap.size) (p := ⟨pf, 0, none⟩) hpl q0 ?_, kept (B := w0.heap.size) (p := ⟨pf, 1, none⟩) hpl q1 ?_, kept (B := w0.heap.size) (p := ⟨pg, 1, none⟩) hpg q2 ?_⟩ <;> repeat' (first | assumption | with_reducible exact Below.refl _ _ | with_reducible apply Below.drew | with_reducible apply below_drewN | with_reducible apply below_alloc | with_reducible refine below_set ?_ ?_ _ | (simp only [World.size_alloc, World.heap_drewN]; omega) | (simp; omega))), fun _ => by trivial⟩ (fun hS => ?_)
  rotate_left
  · (intro w hSw; (try dsimp only at hSw); go_split_ands; go_simp; try with_reducible rfl)
  try simp only [Act.put, List.setIfInBounds_toArray, List.set_cons_zero, List.set_cons_succ]
  refine anyTill.last (i := 1) (oi := { dst := some 51, op := Op.load 3 (Operand.tmp 50), type := 3, pos := "few.go:110", after := #[{ on := 0, ground := Ground.data }], guard := none }) (v := ?_) rfl (by kernel_rfl) (by kernel_rfl) (by kernel_rfl) (fun _ _ _ h => hQp _ _ _ _ _ h) (by rfl) (Or.inl ⟨by rfl, ?_⟩) hS (fun hS => ?_)
  rotate_left
  · (intro w hSw; (try dsimp only at hSw); go_split_ands; go_simp; try with_reducible rfl)
  try simp only [Act.put, List.setIfInBounds_toArray, List.set_cons_zero, List.set_cons_succ]
  refine anyTill.last (i := 2) (oi := { dst := some 52, op := Op.fieldAddr 24 (Operand.tmp 2) 1, type := 0, pos := "few.go:110", after := #[], guard := none }) (v := ?_) rfl (by kernel_rfl) (by kernel_rfl) (by kernel_rfl) (fun _ _ _ h => hQp _ _ _ _ _ h) (by rfl) (Or.inl ⟨by rfl, ?_⟩) hS (fun hS => ?_)
  rotate_left
  · (intro w hSw; (try dsimp only at hSw); go_split_ands; go_simp; try with_reducible rfl)
  try simp only [Act.put, List.setIfInBounds_toArray, List.set_cons_zero, List.set_cons_succ]
  refine anyTill.last (i := 3) (oi := { dst := some 53, op := Op.load 3 (Operand.tmp 52), type := 3, pos := "few.go:110", after := #[{ on := 2, ground := Ground.data }], guard := none }) (v := ?_) rfl (by kernel_rfl) (by kernel_rfl) (by kernel_rfl) (fun _ _ _ h => hQp _ _ _ _ _ h) (by rfl) (Or.inl ⟨by rfl, ?_⟩) hS (fun hS => ?_)
  rotate_left
  · (intro w hSw; (try dsimp only at hSw); go_split_ands; go_simp; try with_reducible rfl)
  try simp only [Act.put, List.setIfInBounds_toArray, List.set_cons_zero, List.set_cons_succ]
  refine anyTill.last (i := 4) (oi := { dst := some 54, op := Op.fieldAddr 24 (Operand.tmp 3) 1, type := 0, pos := "few.go:110", after := #[], guard := none }) (v := ?_) rfl (by kernel_rfl) (by kernel_rfl) (by kernel_rfl) (fun _ _ _ h => hQp _ _ _ _ _ h) (by rfl) (Or.inl ⟨by rfl, ?_⟩) hS (fun hS => ?_)
  rotate_left
  · (intro w hSw; (try dsimp only at hSw); go_split_ands; go_simp; try with_reducible rfl)
  try simp only [Act.put, List.setIfInBounds_toArray, List.set_cons_zero, List.set_cons_succ]
  refine anyTill.last (i := 5) (oi := { dst := some 55, op := Op.load 3 (Operand.tmp 54), type := 3, pos := "few.go:110", after := #[{ on := 4, ground := Ground.data }], guard := none }) (v := ?_) rfl (by kernel_rfl) (by kernel_rfl) (by kernel_rfl) (fun _ _ _ h => hQp _ _ _ _ _ h) (by rfl) (Or.inl ⟨by rfl, ?_⟩) hS (fun hS => ?_)
  rotate_left
  · (intro w hSw; (try dsimp only at hSw); go_split_ands; go_simp; try with_reducible rfl)
  try simp only [Act.put, List.setIfInBounds_toArray, List.set_cons_zero, List.set_cons_succ]
  refine anyTill.last (i := 6) (oi := { dst := some 56, op := Op.binOp BinOp.add 3 (Operand.tmp 53) (Operand.tmp 55) 3, type := 3, pos := "few.go:110", after := #[{ on := 3, ground := Ground.data }, { on := 5, ground := Ground.data }], guard := none }) (v := ?_) rfl (by kernel_rfl) (by kernel_rfl) (by kernel_rfl) (fun _ _ _ h => hQp _ _ _ _ _ h) (by rfl) (Or.inl ⟨by rfl, ?_⟩) hS (fun hS => ?_)
  rotate_left
  · (intro w hSw; (try dsimp only at hSw); go_split_ands; go_simp; try with_reducible rfl)
  try simp only [Act.put, List.setIfInBounds_toArray, List.set_cons_zero, List.set_cons_succ]
  refine anyTill.last (i := 7) (oi := { dst := some 57, op := Op.move (Operand.tmp 8), type := 22, pos := "few.go:110", after := #[], guard := none }) (v := ?_) rfl (by kernel_rfl) (by kernel_rfl) (by kernel_rfl) (fun _ _ _ h => hQp _ _ _ _ _ h) (by rfl) (Or.inl ⟨by rfl, ?_⟩) hS (fun hS => ?_)
  rotate_left
  · (intro w hSw; (try dsimp only at hSw); go_split_ands; go_simp; try with_reducible rfl)
  try simp only [Act.put, List.setIfInBounds_toArray, List.set_cons_zero, List.set_cons_succ]
  exact joinreg_o hs hN ez hpl hpg q0 q1 q2 hQp hfin (by rfl) (by kernel_rfl) (by rfl) kb
end Go.Proofs.YtfopihlbdceepaaGreat
