/- Proves the parts of the claim that its last text joins: DkP, Dk2. Conditions: those that each theorem names. -/
import Derived.Test.YtjpbjghdplbdcaaGreatDoorM01
import Derived.Lib.ItoaNum
import Derived.Lib.AtoiTie
import Derived.Test.YtjpbjghdplbdcaaGreatDoorM02
import Derived.Shelf.Strconv.Itoa3
import Derived.Shelf.Strconv.ErrVarAll
import Derived.Shelf.Strings.SplitShaped
import Derived.Shelf.Strings.Shaped
import Derived.Ground.NamesProg
import Derived.Lib.AtoiErrMem
section
namespace Go.Proofs.YtjpbjghdplbdcaaGreatDoor
open Go.Lib
def decF : Nat → Nat → List UInt8
  | 0, u => [UInt8.ofNat (48 + u % 10)]
  | f + 1, u => if u < 10 then [UInt8.ofNat (48 + u)] else decF f (u / 10) ++ [UInt8.ofNat (48 + u % 10)]
theorem decF_is : ∀ (f u : Nat), u < 10 ^ (f + 1) → decF f u = decDigits u
  | 0, u, h => by
    have h10 : u < 10 := by simpa using h
    rw [decF, decDigits_one h10, Nat.mod_eq_of_lt h10]
  | f + 1, u, h => by
    rw [decF]
    by_cases h10 : u < 10
    · rw [if_pos h10, decDigits_one h10]
    · rw [if_neg h10, decDigits, dif_neg h10, decF_is f (u / 10) (by rw [Nat.pow_succ] at h; omega)]
def dec (n : Int) : List UInt8 := if n < 0 then 45 :: decF 20 n.natAbs else decF 20 n.toNat
theorem dec_is {n : Int} (h0 : -9223372036854775808 ≤ n) (h1 : n ≤ 9223372036854775807) : itoa n = dec n := by
  unfold itoa dec
  split
  · rw [decF_is 20 _ (by omega)]
  · rw [decF_is 20 _ (by omega)]
theorem digits_in : ∀ (u : Nat) (b : UInt8), b ∈ decDigits u → 48 ≤ b.toNat ∧ b.toNat ≤ 57 := by
  intro u
  induction u using Nat.strongRecOn with
  | ind u ih =>
    intro b hb
    rw [decDigits] at hb
    split at hb
    · rw [List.mem_singleton] at hb
      subst hb
      rw [UInt8.toNat_ofNat_of_lt' (by show _ < 256; omega)]
      omega
    · rcases List.mem_append.1 hb with hb | hb
      · exact ih (u / 10) (by omega) b hb
      · rw [List.mem_singleton] at hb
        subst hb
        rw [UInt8.toNat_ofNat_of_lt' (by show _ < 256; omega)]
        omega
def numOf (l : List UInt8) : Option Nat := match decNat l with
  | some m => if l.length ≤ 18 ∧ dec m = l then some m else none
  | none => none
theorem numOf_some {l : List UInt8} {m : Nat} (h : numOf l = some m) : decNat l = some m ∧ l.length ≤ 18 ∧ dec m = l ∧ m < 9223372036854775808 := by
  unfold numOf at h
  cases hd : decNat l with
  | none => rw [hd] at h; cases h
  | some k =>
    rw [hd] at h
    dsimp only at h
    split at h
    · rename_i hc
      injection h with h
      subst h
      exact ⟨rfl, hc.1, hc.2, decNat_small hc.1 hd⟩
    · cases h
theorem numOf_atoi {l : List UInt8} {m : Nat} (h : numOf l = some m) : atoiAll l = .ok (m : Int) := by
  obtain ⟨hd, hl, _, hm⟩ := numOf_some h
  rw [atoiAll_short l hl]
  cases l with
  | nil => simp [decNat] at hd
  | cons b r =>
    obtain ⟨_, hf⟩ := decNat_some hd
    obtain ⟨d, hdv⟩ := digit_of_decFrom (b :: r) 0 m hf 0 b rfl
    obtain ⟨h1, h2, _⟩ := digitVal_eq hdv
    have e1 : (b == 45) = false := by rw [beq_eq_false_iff_ne]; rintro rfl; simp at h1
    have e2 : (b == 43) = false := by rw [beq_eq_false_iff_ne]; rintro rfl; simp at h1
    rw [atoi, e1, e2, hd]
    rfl
theorem numOf_none {l : List UInt8} {v : Int} (h : numOf l = none) (ha : atoiAll l = .ok v) (hv : 0 ≤ v) (hl : l.length ≤ 18) : l ≠ dec v := by
  intro he
  obtain ⟨hb0, hb1⟩ := atoiAll_bounds ha
  rw [← dec_is hb0 hb1] at he
  have hdg : itoa v = decDigits v.toNat := by unfold itoa; rw [if_neg (by omega)]
  rw [hdg] at he
  rw [atoiAll_short l hl] at ha
  cases l with
  | nil => simp [atoi, NumEnd.ofOption] at ha
  | cons b r =>
    have hbd := digits_in v.toNat b (by rw [← he]; exact List.mem_cons_self)
    have e1 : (b == 45) = false := by rw [beq_eq_false_iff_ne]; rintro rfl; simp at hbd
    have e2 : (b == 43) = false := by rw [beq_eq_false_iff_ne]; rintro rfl; simp at hbd
    rw [atoi, e1, e2] at ha
    cases hd : decNat (b :: r) with
    | none => rw [hd] at ha; simp [NumEnd.ofOption] at ha
    | some m =>
      rw [hd] at ha
      have hm : (m : Int) = v := by simpa [NumEnd.ofOption] using ha
      unfold numOf at h
      rw [hd] at h
      dsimp only at h
      rw [if_pos ⟨hl, by
        have hm2 := decNat_small hl hd
        rw [← dec_is (by omega) (by omega), hm, hdg, ← he]⟩] at h
      cases h
end Go.Proofs.YtjpbjghdplbdcaaGreatDoor
end
section
namespace Go.Proofs.YtjpbjghdplbdcaaGreatDoor
open Go.RowKit Go.Shelf
def laysItoa_ren : Go.Shelf.Ren := ⟨fun | 171 => 31 | 243 => 82 | 246 => 163 | 283 => 224 | 284 => 225 | 285 => 226 | 286 => 227 | 129 => 268 | 317 => 287 | 318 => 288 | 319 => 289 | 320 => 290 | 337 => 331 | 338 => 332 | n => n, fun | 3 => 3 | 9 => 9 | 2 => 2 | 4 => 4 | 171 => 241 | 0 => 0 | 53 => 72 | 37 => 52 | 5 => 5 | 173 => 244 | 212 => 289 | 51 => 238 | 20 => 20 | 213 => 290 | 46 => 166 | 232 => 341 | 233 => 342 | n => n, fun | 17 => 5 | 18 => 8 | 19 => 9 | n => n⟩
theorem laysItoa : Go.Proofs.LaysM.n171 Tryz.prog laysItoa_ren := {
  mixed := by kernel_rfl
  f129 := Tryz.func268.trans (congrArg some (by kernel_rfl))
  f171 := Tryz.func31.trans (congrArg some (by kernel_rfl))
  f243 := Tryz.func82.trans (congrArg some (by kernel_rfl))
  f246 := Tryz.func163.trans (congrArg some (by kernel_rfl))
  f283 := Tryz.func224.trans (congrArg some (by kernel_rfl))
  f284 := Tryz.func225.trans (congrArg some (by kernel_rfl))
  f285 := Tryz.func226.trans (congrArg some (by kernel_rfl))
  f286 := Tryz.func227.trans (congrArg some (by kernel_rfl))
  f317 := Tryz.func287.trans (congrArg some (by kernel_rfl))
  f318 := Tryz.func288.trans (congrArg some (by kernel_rfl))
  f319 := Tryz.func289.trans (congrArg some (by kernel_rfl))
  f320 := Tryz.func290.trans (congrArg some (by kernel_rfl))
  f337 := Tryz.func331.trans (congrArg some (by kernel_rfl))
  f338 := Tryz.func332.trans (congrArg some (by kernel_rfl))
  t0 := Tryz.underlying0
  a0 := Tryz.isAgg0
  z0 := Tryz.sizeOf0
  v0 := Tryz.zeroValue0
  t2 := Tryz.underlying2
  a2 := Tryz.isAgg2
  z2 := Tryz.sizeOf2
  v2 := Tryz.zeroValue2
  t3 := Tryz.underlying3
  a3 := Tryz.isAgg3
  z3 := Tryz.sizeOf3
  v3 := Tryz.zeroValue3
  t4 := Tryz.underlying4
  a4 := Tryz.isAgg4
  z4 := Tryz.sizeOf4
  v4 := Tryz.zeroValue4
  t5 := Tryz.underlying5
  a5 := Tryz.isAgg5
  z5 := Tryz.sizeOf5
  v5 := Tryz.zeroValue5
  t9 := Tryz.underlying9
  a9 := Tryz.isAgg9
  z9 := Tryz.sizeOf9
  v9 := Tryz.zeroValue9
  t20 := Tryz.underlying20
  a20 := Tryz.isAgg20
  z20 := Tryz.sizeOf20
  v20 := Tryz.zeroValue20
  t37 := Tryz.underlying52
  a37 := Tryz.isAgg52
  z37 := Tryz.sizeOf52
  v37 := Tryz.zeroValue52
  t46 := Tryz.underlying166
  a46 := Tryz.isAgg166
  z46 := Tryz.sizeOf166
  v46 := Tryz.zeroValue166
  t51 := Tryz.underlying238
  a51 := Tryz.isAgg238
  z51 := Tryz.sizeOf238
  v51 := Tryz.zeroValue238
  t53 := Tryz.underlying72
  a53 := Tryz.isAgg72
  z53 := Tryz.sizeOf72
  v53 := Tryz.zeroValue72
  t171 := Tryz.underlying241
  a171 := Tryz.isAgg241
  z171 := Tryz.sizeOf241
  v171 := Tryz.zeroValue241
  t173 := Tryz.underlying244
  a173 := Tryz.isAgg244
  z173 := Tryz.sizeOf244
  v173 := Tryz.zeroValue244
  t212 := Tryz.underlying289
  a212 := Tryz.isAgg289
  z212 := Tryz.sizeOf289
  v212 := Tryz.zeroValue289
  t213 := Tryz.underlying290
  a213 := Tryz.isAgg290
  z213 := Tryz.sizeOf290
  t232 := Tryz.underlying341
  a232 := Tryz.isAgg341
  z232 := Tryz.sizeOf341
  v232 := Tryz.zeroValue341
  t233 := Tryz.underlying342
  a233 := Tryz.isAgg342
  z233 := Tryz.sizeOf342
  v233 := Tryz.zeroValue342
  g17 := by kernel_rfl
  g18 := by kernel_rfl
  g19 := by kernel_rfl
  i0 := by kernel_rfl
  i2 := by kernel_rfl
  i3 := by kernel_rfl
  i4 := by kernel_rfl
  i5 := by kernel_rfl
  i9 := by kernel_rfl
  i20 := by kernel_rfl
  i37 := by kernel_rfl
  i46 := by kernel_rfl
  i51 := by kernel_rfl
  i53 := by kernel_rfl
  i171 := by kernel_rfl
  i173 := by kernel_rfl
  i212 := by kernel_rfl
  i232 := by kernel_rfl
  i233 := by kernel_rfl
  m17 := by kernel_rfl
  m18 := by kernel_rfl
  m19 := by kernel_rfl }
def laysAtoi_ren : Go.Shelf.Ren := ⟨fun | 172 => 168 | 244 => 229 | 245 => 230 | 247 => 291 | 279 => 292 | 280 => 293 | 281 => 294 | 282 => 295 | 287 => 333 | 316 => 334 | 171 => 31 | 205 => 335 | 321 => 353 | 322 => 354 | 243 => 82 | 246 => 163 | 283 => 224 | 284 => 225 | 285 => 226 | 286 => 227 | 129 => 268 | 317 => 287 | 318 => 288 | 319 => 289 | 320 => 290 | 337 => 331 | 338 => 332 | n => n, fun | 9 => 9 | 3 => 3 | 75 => 56 | 76 => 57 | 4 => 4 | 5 => 5 | 167 => 291 | 37 => 52 | 0 => 0 | 85 => 292 | 2 => 2 | 168 => 294 | 53 => 72 | 175 => 325 | 46 => 166 | 210 => 328 | 127 => 88 | 145 => 346 | 143 => 344 | 21 => 21 | 171 => 241 | 173 => 244 | 212 => 289 | 51 => 238 | 20 => 20 | 213 => 290 | 232 => 341 | 233 => 342 | 80 => 60 | n => n, fun | 15 => 6 | 16 => 7 | 17 => 5 | 18 => 8 | 19 => 9 | n => n⟩
theorem laysAtoi : Go.Proofs.LaysC.n172 Tryz.prog laysAtoi_ren := {
  mixed := by kernel_rfl
  f129 := Tryz.func268.trans (congrArg some (by kernel_rfl))
  f171 := Tryz.func31.trans (congrArg some (by kernel_rfl))
  f172 := Tryz.func168.trans (congrArg some (by kernel_rfl))
  f205 := Tryz.func335.trans (congrArg some (by kernel_rfl))
  f243 := Tryz.func82.trans (congrArg some (by kernel_rfl))
  f244 := Tryz.func229.trans (congrArg some (by kernel_rfl))
  f245 := Tryz.func230.trans (congrArg some (by kernel_rfl))
  f246 := Tryz.func163.trans (congrArg some (by kernel_rfl))
  f247 := Tryz.func291.trans (congrArg some (by kernel_rfl))
  f279 := Tryz.func292.trans (congrArg some (by kernel_rfl))
  f280 := Tryz.func293.trans (congrArg some (by kernel_rfl))
  f281 := Tryz.func294.trans (congrArg some (by kernel_rfl))
  f282 := Tryz.func295.trans (congrArg some (by kernel_rfl))
  f283 := Tryz.func224.trans (congrArg some (by kernel_rfl))
  f284 := Tryz.func225.trans (congrArg some (by kernel_rfl))
  f285 := Tryz.func226.trans (congrArg some (by kernel_rfl))
  f286 := Tryz.func227.trans (congrArg some (by kernel_rfl))
  f287 := Tryz.func333.trans (congrArg some (by kernel_rfl))
  f316 := Tryz.func334.trans (congrArg some (by kernel_rfl))
  f317 := Tryz.func287.trans (congrArg some (by kernel_rfl))
  f318 := Tryz.func288.trans (congrArg some (by kernel_rfl))
  f319 := Tryz.func289.trans (congrArg some (by kernel_rfl))
  f320 := Tryz.func290.trans (congrArg some (by kernel_rfl))
  f321 := Tryz.func353.trans (congrArg some (by kernel_rfl))
  f322 := Tryz.func354.trans (congrArg some (by kernel_rfl))
  f337 := Tryz.func331.trans (congrArg some (by kernel_rfl))
  f338 := Tryz.func332.trans (congrArg some (by kernel_rfl))
  t0 := Tryz.underlying0
  a0 := Tryz.isAgg0
  z0 := Tryz.sizeOf0
  v0 := Tryz.zeroValue0
  t2 := Tryz.underlying2
  a2 := Tryz.isAgg2
  z2 := Tryz.sizeOf2
  v2 := Tryz.zeroValue2
  t3 := Tryz.underlying3
  a3 := Tryz.isAgg3
  z3 := Tryz.sizeOf3
  v3 := Tryz.zeroValue3
  t4 := Tryz.underlying4
  a4 := Tryz.isAgg4
  z4 := Tryz.sizeOf4
  v4 := Tryz.zeroValue4
  t5 := Tryz.underlying5
  a5 := Tryz.isAgg5
  z5 := Tryz.sizeOf5
  v5 := Tryz.zeroValue5
  t9 := Tryz.underlying9
  a9 := Tryz.isAgg9
  z9 := Tryz.sizeOf9
  v9 := Tryz.zeroValue9
  t20 := Tryz.underlying20
  a20 := Tryz.isAgg20
  z20 := Tryz.sizeOf20
  v20 := Tryz.zeroValue20
  t21 := Tryz.underlying21
  a21 := Tryz.isAgg21
  z21 := Tryz.sizeOf21
  v21 := Tryz.zeroValue21
  t37 := Tryz.underlying52
  a37 := Tryz.isAgg52
  z37 := Tryz.sizeOf52
  v37 := Tryz.zeroValue52
  t46 := Tryz.underlying166
  a46 := Tryz.isAgg166
  z46 := Tryz.sizeOf166
  v46 := Tryz.zeroValue166
  t51 := Tryz.underlying238
  a51 := Tryz.isAgg238
  z51 := Tryz.sizeOf238
  v51 := Tryz.zeroValue238
  t53 := Tryz.underlying72
  a53 := Tryz.isAgg72
  z53 := Tryz.sizeOf72
  v53 := Tryz.zeroValue72
  t75 := Tryz.underlying56
  a75 := Tryz.isAgg56
  z75 := Tryz.sizeOf56
  v75 := Tryz.zeroValue56
  t76 := Tryz.underlying57
  a76 := Tryz.isAgg57
  z76 := Tryz.sizeOf57
  v76 := Tryz.zeroValue57
  t85 := Tryz.underlying292
  a85 := Tryz.isAgg292
  z85 := Tryz.sizeOf292
  v85 := Tryz.zeroValue292
  t127 := Tryz.underlying88
  a127 := Tryz.isAgg88
  z127 := Tryz.sizeOf88
  v127 := Tryz.zeroValue88
  t143 := Tryz.underlying344
  a143 := Tryz.isAgg344
  z143 := Tryz.sizeOf344
  v143 := Tryz.zeroValue344
  t145 := Tryz.underlying346
  a145 := Tryz.isAgg346
  z145 := Tryz.sizeOf346
  v145 := Tryz.zeroValue346
  t167 := Tryz.underlying291
  a167 := Tryz.isAgg291
  z167 := Tryz.sizeOf291
  v167 := Tryz.zeroValue291
  t168 := Tryz.underlying294
  a168 := Tryz.isAgg294
  z168 := Tryz.sizeOf294
  v168 := Tryz.zeroValue294
  t171 := Tryz.underlying241
  a171 := Tryz.isAgg241
  z171 := Tryz.sizeOf241
  v171 := Tryz.zeroValue241
  t173 := Tryz.underlying244
  a173 := Tryz.isAgg244
  z173 := Tryz.sizeOf244
  v173 := Tryz.zeroValue244
  t175 := Tryz.underlying325
  a175 := Tryz.isAgg325
  z175 := Tryz.sizeOf325
  v175 := Tryz.zeroValue325
  t210 := Tryz.underlying328
  a210 := Tryz.isAgg328
  z210 := Tryz.sizeOf328
  v210 := Tryz.zeroValue328
  t212 := Tryz.underlying289
  a212 := Tryz.isAgg289
  z212 := Tryz.sizeOf289
  v212 := Tryz.zeroValue289
  t213 := Tryz.underlying290
  a213 := Tryz.isAgg290
  z213 := Tryz.sizeOf290
  t232 := Tryz.underlying341
  a232 := Tryz.isAgg341
  z232 := Tryz.sizeOf341
  v232 := Tryz.zeroValue341
  t233 := Tryz.underlying342
  a233 := Tryz.isAgg342
  z233 := Tryz.sizeOf342
  v233 := Tryz.zeroValue342
  g15 := by kernel_rfl
  g16 := by kernel_rfl
  g17 := by kernel_rfl
  g18 := by kernel_rfl
  g19 := by kernel_rfl
  t80 := Tryz.underlying60
  a80 := Tryz.isAgg60
  z80 := Tryz.sizeOf60
  v80 := Tryz.zeroValue60
  i0 := by kernel_rfl
  i2 := by kernel_rfl
  i3 := by kernel_rfl
  i4 := by kernel_rfl
  i5 := by kernel_rfl
  i9 := by kernel_rfl
  i20 := by kernel_rfl
  i21 := by kernel_rfl
  i37 := by kernel_rfl
  i46 := by kernel_rfl
  i51 := by kernel_rfl
  i53 := by kernel_rfl
  i75 := by kernel_rfl
  i76 := by kernel_rfl
  i80 := by kernel_rfl
  i85 := by kernel_rfl
  i127 := by kernel_rfl
  i143 := by kernel_rfl
  i145 := by kernel_rfl
  i167 := by kernel_rfl
  i168 := by kernel_rfl
  i171 := by kernel_rfl
  i173 := by kernel_rfl
  i175 := by kernel_rfl
  i210 := by kernel_rfl
  i212 := by kernel_rfl
  i232 := by kernel_rfl
  i233 := by kernel_rfl
  m15 := by kernel_rfl
  m16 := by kernel_rfl
  m17 := by kernel_rfl
  m18 := by kernel_rfl
  m19 := by kernel_rfl
  c0 := by kernel_rfl
  c2 := by kernel_rfl
  c3 := by kernel_rfl
  c4 := by kernel_rfl
  c5 := by kernel_rfl
  c9 := by kernel_rfl
  c20 := by kernel_rfl
  c21 := by kernel_rfl
  c37 := by kernel_rfl
  c46 := by kernel_rfl
  c51 := by kernel_rfl
  c53 := by kernel_rfl
  c75 := by kernel_rfl
  c76 := by kernel_rfl
  c80 := by kernel_rfl
  c85 := by kernel_rfl
  c127 := by kernel_rfl
  c143 := by kernel_rfl
  c145 := by kernel_rfl
  c167 := by kernel_rfl
  c168 := by kernel_rfl
  c171 := by kernel_rfl
  c173 := by kernel_rfl
  c175 := by kernel_rfl
  c210 := by kernel_rfl
  c212 := by kernel_rfl
  c213 := by kernel_rfl
  c232 := by kernel_rfl
  c233 := by kernel_rfl }
def laysCutD_ren : Go.Shelf.Ren := ⟨fun | 145 => 9 | 220 => 24 | 219 => 75 | 217 => 156 | 225 => 157 | 224 => 158 | 267 => 159 | 266 => 221 | 314 => 222 | n => n, fun | 9 => 9 | 4 => 4 | 59 => 30 | 3 => 3 | 5 => 5 | 46 => 166 | 146 => 239 | 51 => 238 | n => n, fun | 1 => 0 | n => n⟩
theorem laysCutD : Go.Proofs.LaysM.n145 Tryz.prog laysCutD_ren := {
  mixed := by kernel_rfl
  f145 := Tryz.func9.trans (congrArg some (by kernel_rfl))
  f217 := Tryz.func156.trans (congrArg some (by kernel_rfl))
  f219 := Tryz.func75.trans (congrArg some (by kernel_rfl))
  f220 := Tryz.func24.trans (congrArg some (by kernel_rfl))
  f224 := Tryz.func158.trans (congrArg some (by kernel_rfl))
  f225 := Tryz.func157.trans (congrArg some (by kernel_rfl))
  f266 := Tryz.func221.trans (congrArg some (by kernel_rfl))
  f267 := Tryz.func159.trans (congrArg some (by kernel_rfl))
  f314 := Tryz.func222.trans (congrArg some (by kernel_rfl))
  t3 := Tryz.underlying3
  a3 := Tryz.isAgg3
  z3 := Tryz.sizeOf3
  v3 := Tryz.zeroValue3
  t4 := Tryz.underlying4
  a4 := Tryz.isAgg4
  z4 := Tryz.sizeOf4
  v4 := Tryz.zeroValue4
  t5 := Tryz.underlying5
  a5 := Tryz.isAgg5
  z5 := Tryz.sizeOf5
  v5 := Tryz.zeroValue5
  t9 := Tryz.underlying9
  a9 := Tryz.isAgg9
  z9 := Tryz.sizeOf9
  v9 := Tryz.zeroValue9
  t46 := Tryz.underlying166
  a46 := Tryz.isAgg166
  z46 := Tryz.sizeOf166
  v46 := Tryz.zeroValue166
  t51 := Tryz.underlying238
  a51 := Tryz.isAgg238
  z51 := Tryz.sizeOf238
  v51 := Tryz.zeroValue238
  t59 := Tryz.underlying30
  a59 := Tryz.isAgg30
  z59 := Tryz.sizeOf30
  v59 := Tryz.zeroValue30
  t146 := Tryz.underlying239
  a146 := Tryz.isAgg239
  z146 := Tryz.sizeOf239
  v146 := Tryz.zeroValue239
  g1 := by kernel_rfl
  i3 := by kernel_rfl
  i4 := by kernel_rfl
  i5 := by kernel_rfl
  i9 := by kernel_rfl
  i46 := by kernel_rfl
  i51 := by kernel_rfl
  i59 := by kernel_rfl
  i146 := by kernel_rfl
  m1 := by kernel_rfl
  s1_3 := fun w h => Go.Proofs.cell_of_shapedOpen_int (zero := #[.int .i64 0]) (t := 3) h (of_decide_eq_true (by kernel_rfl)) (by kernel_rfl) rfl (by kernel_rfl) (by kernel_rfl) Tryz.underlying3 }
def laysSplitD_ren : Go.Shelf.Ren := ⟨fun | 146 => 14 | 221 => 28 | 268 => 78 | 138 => 79 | 143 => 80 | 195 => 160 | 197 => 161 | 218 => 162 | 219 => 75 | 260 => 223 | 217 => 156 | 225 => 157 | 224 => 158 | 267 => 159 | 266 => 221 | 314 => 222 | n => n, fun | 9 => 9 | 31 => 28 | 3 => 3 | 4 => 4 | 0 => 0 | 105 => 192 | 21 => 21 | 5 => 5 | 46 => 166 | 119 => 284 | 139 => 287 | 138 => 286 | 146 => 239 | 51 => 238 | n => n, fun | 1 => 0 | 3 => 3 | 4 => 4 | n => n⟩
theorem laysSplitD : Go.Proofs.LaysM.n146 Tryz.prog laysSplitD_ren := {
  mixed := by kernel_rfl
  f138 := Tryz.func79.trans (congrArg some (by kernel_rfl))
  f143 := Tryz.func80.trans (congrArg some (by kernel_rfl))
  f146 := Tryz.func14.trans (congrArg some (by kernel_rfl))
  f195 := Tryz.func160.trans (congrArg some (by kernel_rfl))
  f197 := Tryz.func161.trans (congrArg some (by kernel_rfl))
  f217 := Tryz.func156.trans (congrArg some (by kernel_rfl))
  f218 := Tryz.func162.trans (congrArg some (by kernel_rfl))
  f219 := Tryz.func75.trans (congrArg some (by kernel_rfl))
  f221 := Tryz.func28.trans (congrArg some (by kernel_rfl))
  f224 := Tryz.func158.trans (congrArg some (by kernel_rfl))
  f225 := Tryz.func157.trans (congrArg some (by kernel_rfl))
  f260 := Tryz.func223.trans (congrArg some (by kernel_rfl))
  f266 := Tryz.func221.trans (congrArg some (by kernel_rfl))
  f267 := Tryz.func159.trans (congrArg some (by kernel_rfl))
  f268 := Tryz.func78.trans (congrArg some (by kernel_rfl))
  f314 := Tryz.func222.trans (congrArg some (by kernel_rfl))
  t0 := Tryz.underlying0
  a0 := Tryz.isAgg0
  z0 := Tryz.sizeOf0
  v0 := Tryz.zeroValue0
  t3 := Tryz.underlying3
  a3 := Tryz.isAgg3
  z3 := Tryz.sizeOf3
  v3 := Tryz.zeroValue3
  t4 := Tryz.underlying4
  a4 := Tryz.isAgg4
  z4 := Tryz.sizeOf4
  v4 := Tryz.zeroValue4
  t5 := Tryz.underlying5
  a5 := Tryz.isAgg5
  z5 := Tryz.sizeOf5
  v5 := Tryz.zeroValue5
  t9 := Tryz.underlying9
  a9 := Tryz.isAgg9
  z9 := Tryz.sizeOf9
  v9 := Tryz.zeroValue9
  t21 := Tryz.underlying21
  a21 := Tryz.isAgg21
  z21 := Tryz.sizeOf21
  v21 := Tryz.zeroValue21
  t31 := Tryz.underlying28
  a31 := Tryz.isAgg28
  z31 := Tryz.sizeOf28
  v31 := Tryz.zeroValue28
  t46 := Tryz.underlying166
  a46 := Tryz.isAgg166
  z46 := Tryz.sizeOf166
  v46 := Tryz.zeroValue166
  t51 := Tryz.underlying238
  a51 := Tryz.isAgg238
  z51 := Tryz.sizeOf238
  v51 := Tryz.zeroValue238
  t105 := Tryz.underlying192
  a105 := Tryz.isAgg192
  z105 := Tryz.sizeOf192
  v105 := Tryz.zeroValue192
  t119 := Tryz.underlying284
  a119 := Tryz.isAgg284
  z119 := Tryz.sizeOf284
  t138 := Tryz.underlying286
  a138 := Tryz.isAgg286
  z138 := Tryz.sizeOf286
  v138 := Tryz.zeroValue286
  t139 := Tryz.underlying287
  a139 := Tryz.isAgg287
  z139 := Tryz.sizeOf287
  v139 := Tryz.zeroValue287
  t146 := Tryz.underlying239
  a146 := Tryz.isAgg239
  z146 := Tryz.sizeOf239
  v146 := Tryz.zeroValue239
  g1 := by kernel_rfl
  g3 := by kernel_rfl
  g4 := by kernel_rfl
  i0 := by kernel_rfl
  i3 := by kernel_rfl
  i4 := by kernel_rfl
  i5 := by kernel_rfl
  i9 := by kernel_rfl
  i21 := by kernel_rfl
  i31 := by kernel_rfl
  i46 := by kernel_rfl
  i51 := by kernel_rfl
  i105 := by kernel_rfl
  i138 := by kernel_rfl
  i139 := by kernel_rfl
  i146 := by kernel_rfl
  m1 := by kernel_rfl
  s1_3 := fun w h => Go.Proofs.cell_of_shapedOpen_int (zero := #[.int .i64 0]) (t := 3) h (of_decide_eq_true (by kernel_rfl)) (by kernel_rfl) rfl (by kernel_rfl) (by kernel_rfl) Tryz.underlying3
  m3 := by kernel_rfl
  m4 := by kernel_rfl }

structure LibW (b : Nat) (w : World) : Prop where
  tab : Lib.TabIs Tryz.prog w "internal/strconv.uint64pow10" .u64 Lib.pow10Tab
  syn : ∃ tp p, w.var? Tryz.prog "strconv.ErrSyntax" = some #[.iface tp p]
  rng : ∃ tp p, w.var? Tryz.prog "strconv.ErrRange" = some #[.iface tp p]
  mset : ∃ m, w.cell? ⟨laysCutD_ren.g 1, 0, none⟩ = some (.int .i64 m)
  lt : 10 ≤ b
theorem var_below {b : Nat} {w w' : World} {s : String} {g : Nat} (hg : Tryz.prog.globalNamed s = some g) (hb : Below b w w') (h : g < b) : w'.var? Tryz.prog s = w.var? Tryz.prog s := by
  unfold World.var?
  rw [hg]
  simp only [Option.bind_some, hb.block g h]
theorem g_tab : Tryz.prog.globalNamed "internal/strconv.uint64pow10" = some 5 := by kernel_rfl
theorem LibW.below {b : Nat} {w w' : World} (h : LibW b w) (hb : Below b w w') : LibW b w' where
  tab := by
    have := h.tab
    unfold Lib.TabIs at this ⊢
    rw [var_below g_tab hb (by have := h.lt; exact Nat.lt_of_lt_of_le (by decide) this)]
    exact this
  syn := by
    obtain ⟨tp, p, h1⟩ := h.syn
    exact ⟨tp, p, by rw [var_below laysAtoi.m15 hb (by have := h.lt; exact Nat.lt_of_lt_of_le (by decide) this)]; exact h1⟩
  rng := by
    obtain ⟨tp, p, h1⟩ := h.rng
    exact ⟨tp, p, by rw [var_below laysAtoi.m16 hb (by have := h.lt; exact Nat.lt_of_lt_of_le (by decide) this)]; exact h1⟩
  mset := by
    obtain ⟨m, h1⟩ := h.mset
    exact ⟨m, (hb.cell (p := ⟨laysCutD_ren.g 1, 0, none⟩) (by have := h.lt; exact Nat.lt_of_lt_of_le (by decide) this)).trans h1⟩
  lt := h.lt
theorem LibW.on {b : Nat} {w w' : World} (h : LibW b w) (hb : Below w.heap.size w w') (hs : b ≤ w.heap.size) : LibW b w' := h.below (hb.mono hs)
theorem below_grow {b : Nat} {w : World} {k : Nat} {os : Array Obj} (hb : b ≤ w.heap.size) : Below b w (Sort.grow (w.drewN k) os) :=
  ⟨rfl, rfl, rfl, by simp, fun j hj => Sort.heap_grow_old _ _ (by rw [World.heap_drewN]; omega)⟩
theorem itoa_any {b : Nat} {w : World} (hL : LibW b w) {n : Int} (h0 : -9223372036854775808 ≤ n) (h1 : n ≤ 9223372036854775807) :
    Calls Tryz.prog 31 #[.int .i64 n] w fun e w' => e = .returned (.string (tx (dec n))) ∧ Below w.heap.size w w' := by
  refine (Any.strconv_Itoa laysItoa n h0 h1 w hL.tab).mono ?_
  rintro e w' ⟨rfl, k, os, rfl⟩
  exact ⟨by rw [dec_is h0 h1]; rfl, below_grow (Nat.le_refl _)⟩
theorem atoi_ok {w : World} {s : List UInt8} (hs : s.length ≤ 281474976710656) {v : Int} (h : Lib.atoiAll s = .ok v) :
    Calls Tryz.prog 168 #[.string (tx s)] w fun e w' => e = .returned (.tuple #[.int .i64 v, .nilIface]) ∧ Below w.heap.size w w' := by
  refine (Any.strconv_Atoi_ok { laysAtoi with } (tx s) (by rw [tx_size]; omega) v h w).mono ?_
  rintro e w' ⟨rfl, rfl | ⟨t, rfl⟩⟩
  · exact ⟨rfl, Below.refl _ _⟩
  · exact ⟨rfl, Lib.bytesWorld_below _ _ _⟩
theorem atoi_bad {b : Nat} {w : World} (hL : LibW b w) {s : List UInt8} (hs : s.length ≤ 281474976710656) (h : ∀ v, Lib.atoiAll s ≠ .ok v) :
    Calls Tryz.prog 168 #[.string (tx s)] w fun e w' => ∃ v N, e = .returned (.tuple #[.int .i64 v, .iface 294 (.pointer (some ⟨N, 0, none⟩))]) ∧ Below w.heap.size w w' := by
  rcases hr : Lib.atoiAll s with v | _ | _
  · exact absurd hr (h v)
  · obtain ⟨tp, p, hv⟩ := hL.syn
    refine (Any.strconv_Atoi_syntax_var { laysAtoi with } (tx s) (by rw [tx_size]; exact hs) hr tp p w hv).mono ?_
    rintro e w' ⟨N, rfl, _, _, hb⟩
    exact ⟨_, N, rfl, hb⟩
  · obtain ⟨tp, p, hv⟩ := hL.rng
    refine (Any.strconv_Atoi_range_var { laysAtoi with } (tx s) (by rw [tx_size]; exact hs) hr tp p w hv).mono ?_
    rintro e w' ⟨N, rfl, _, _, hb⟩
    exact ⟨_, N, rfl, hb⟩
section
variable {b : Nat} {w : World} {s : List UInt8}
theorem tx_same (a : List UInt8) : ((tx a).toList == (tx a).toList) = true := by simp
theorem tx_diff {a c : List UInt8} (h : a ≠ c) : ((tx a).toList == (tx c).toList) = false := by
  rw [beq_eq_false_iff_ne]
  intro e
  rw [ByteArray.toList_eq, ByteArray.toList_eq] at e
  exact h (by simpa [tx] using e)
set_option maxHeartbeats 1600000 in
theorem number_ok (hL : LibW b w) (hz : b ≤ w.heap.size) (hs : s.length ≤ 1000000) {n : Nat} (h : numOf s = some n) :
    Calls Tryz.prog 96 #[.string (tx s)] w fun e w' => e = .returned (.int .i64 n) ∧ Below w.heap.size w w' := by
  obtain ⟨_, hl, hd, hn⟩ := numOf_some h
  have hl18 : ¬ 18 < s.length := by omega
  have hsz := tx_size s
  have hnz : ¬ (n : Int) < 0 := by omega
  have h18 : ¬ (18 : Int) < ((tx s).size : Int) := by rw [tx_size]; omega
  have hteq := tx_same s
  have e1 : ∀ W : World, (binOp .neq 56 .nilIface .nilIface).run Tryz.prog W = .ok (.bool false) W := fun _ => by kernel_rfl
  have CA := hide (atoi_ok (w := w) (by omega) (numOf_atoi h))
  have CI := hide (fun w' (hb : Below w.heap.size w w') => itoa_any (hL.on hb hz) (n := (n : Int)) (by omega) (by omega))
  rw [hd] at CI
  clear h hd hL hs hl hsz
  go_enter Tryz.func96, Tryz.ntmps96
  go_wp2_with fail
  refine CA.out.mono ?_
  rintro e w1 ⟨rfl, b1⟩
  go_wp2_with fail
  refine (CI.out _ b1).mono ?_
  rintro e w2 ⟨rfl, b2⟩
  go_wp2_with fail
  go_ret
  exact ⟨rfl, below_on b1 b2⟩
set_option maxHeartbeats 1600000 in
theorem number_bad (hL : LibW b w) (hz : b ≤ w.heap.size) (hs : s.length ≤ 1000000) (h : numOf s = none) :
    Calls Tryz.prog 96 #[.string (tx s)] w fun e w' => e = thrown 9 ∧ Below w.heap.size w w' := by
  by_cases ha : ∃ v, Lib.atoiAll s = .ok v
  · obtain ⟨v, ha⟩ := ha
    have e1 : ∀ W : World, (binOp .neq 56 .nilIface .nilIface).run Tryz.prog W = .ok (.bool false) W := fun _ => by kernel_rfl
    have CA := hide (atoi_ok (w := w) (by omega) ha)
    by_cases hv : v < 0
    · clear h ha hL
      go_enter Tryz.func96, Tryz.ntmps96
      go_wp2_with fail
      refine CA.out.mono ?_
      rintro e w1 ⟨rfl, b1⟩
      go_wp2_with fail
      refine (bad_any 9 _).mono ?_
      rintro e w2 ⟨rfl, rfl⟩
      exact ⟨rfl, rfl, b1⟩
    · by_cases hl : 18 < s.length
      · have h18 : (18 : Int) < ((tx s).size : Int) := by rw [tx_size]; omega
        clear h ha hL
        go_enter Tryz.func96, Tryz.ntmps96
        go_wp2_with fail
        refine CA.out.mono ?_
        rintro e w1 ⟨rfl, b1⟩
        go_wp2_with fail
        refine (bad_any 9 _).mono ?_
        rintro e w2 ⟨rfl, rfl⟩
        exact ⟨rfl, rfl, b1⟩
      · have h18 : ¬ (18 : Int) < ((tx s).size : Int) := by rw [tx_size]; omega
        have hne := tx_diff (numOf_none h ha (by omega) (by omega))
        obtain ⟨hb0, hb1⟩ := Lib.atoiAll_bounds ha
        have CI := hide (fun w' (hb : Below w.heap.size w w') => itoa_any (hL.on hb hz) (n := v) (by omega) (by omega))
        clear h ha hL
        go_enter Tryz.func96, Tryz.ntmps96
        go_wp2_with fail
        refine CA.out.mono ?_
        rintro e w1 ⟨rfl, b1⟩
        go_wp2_with fail
        refine (CI.out _ b1).mono ?_
        rintro e w2 ⟨rfl, b2⟩
        go_wp2_with fail
        refine (bad_any 9 _).mono ?_
        rintro e w3 ⟨rfl, rfl⟩
        exact ⟨rfl, rfl, below_on b1 b2⟩
  · have CA := hide (atoi_bad hL (by omega) (fun v hv => ha ⟨v, hv⟩))
    have e1 : ∀ (N : Nat) (W : World), (binOp .neq 56 (.iface 294 (.pointer (some ⟨N, 0, none⟩))) .nilIface).run Tryz.prog W = .ok (.bool true) W := fun _ _ => by kernel_rfl
    clear h ha hL
    go_enter Tryz.func96, Tryz.ntmps96
    go_wp2_with fail
    refine CA.out.mono ?_
    rintro e w1 ⟨v, N, rfl, b1⟩
    go_wp2_with fail
    refine (bad_any 9 _).mono ?_
    rintro e w2 ⟨rfl, rfl⟩
    exact ⟨rfl, rfl, b1⟩
end
end Go.Proofs.YtjpbjghdplbdcaaGreatDoor
end
