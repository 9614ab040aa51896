/- The functions that the laws of this seat reach, each as a Lean function, and that the code computes it. Conditions: those of each statement. -/
import Derived.Test.YtdimjdlomgpbgaaAb5
import Derived.Test.YtdimjdlomgpbgaaRows
set_option linter.unusedVariables false
set_option linter.unusedSimpArgs false
namespace Go.Proofs.Ytdimjdlomgpbgaa
open Go Go.Ab Go.Proofs
theorem hm0 : Try.prog.follows .mixedOrders = true := by kernel_rfl
def str0 : ByteArray := ⟨#[0, 1, 2, 2, 3, 3, 3, 3, 4, 4, 4, 4, 4, 4, 4, 4, 5, 5, 5, 5, 5, 5, 5, 5, 5, 5, 5, 5, 5, 5, 5, 5, 6, 6, 6, 6, 6, 6, 6, 6, 6, 6, 6, 6, 6, 6, 6, 6, 6, 6, 6, 6, 6, 6, 6, 6, 6, 6, 6, 6, 6, 6, 6, 6, 7, 7, 7, 7, 7, 7, 7, 7, 7, 7, 7, 7, 7, 7, 7, 7, 7, 7, 7, 7, 7, 7, 7, 7, 7, 7, 7, 7, 7, 7, 7, 7, 7, 7, 7, 7, 7, 7, 7, 7, 7, 7, 7, 7, 7, 7, 7, 7, 7, 7, 7, 7, 7, 7, 7, 7, 7, 7, 7, 7, 7, 7, 7, 7, 8, 8, 8, 8, 8, 8, 8, 8, 8, 8, 8, 8, 8, 8, 8, 8, 8, 8, 8, 8, 8, 8, 8, 8, 8, 8, 8, 8, 8, 8, 8, 8, 8, 8, 8, 8, 8, 8, 8, 8, 8, 8, 8, 8, 8, 8, 8, 8, 8, 8, 8, 8, 8, 8, 8, 8, 8, 8, 8, 8, 8, 8, 8, 8, 8, 8, 8, 8, 8, 8, 8, 8, 8, 8, 8, 8, 8, 8, 8, 8, 8, 8, 8, 8, 8, 8, 8, 8, 8, 8, 8, 8, 8, 8, 8, 8, 8, 8, 8, 8, 8, 8, 8, 8, 8, 8, 8, 8, 8, 8, 8, 8, 8, 8, 8, 8, 8, 8, 8, 8, 8, 8, 8, 8, 8, 8, 8, 8]⟩
-- (*madrigal/alloc.claims).Push
def alloc_claims_Push (x_0 : Int) (x_1 : Int) (x_2 : Int) (x_3 : Int) (c_0 : List (List Int)) : Option (List (List Int)) :=
  need (((c_0 ++ [[x_0, x_1, x_2, x_3]]).length) * 32 ≤ 140737488355328) <|
  some (c_0 ++ [[x_0, x_1, x_2, x_3]])
noncomputable def alloc_claims_Push.code : Code := bodyOf Try.f94
noncomputable def alloc_claims_Push.T (k : Nat) : List Row := []
theorem alloc_claims_Push.rows (k : Nat) : RowsOk Try.prog (alloc_claims_Push.T k) := rows_nil _
def alloc_claims_Push.ps : List SV := [.el 0 1, .iface 56 (.agg [.int .i64, .int .i64, .int .i64, .int .i64])]
def alloc_claims_Push.bs : List (SB × Md) := [(.vals 1 [.whole 1], .rw), (.recs [.i64, .i64, .i64, .i64], .own)]
def alloc_claims_Push.cv : List Lf → Option (Int × Int × Int × Int × List (List Int))
  | [.i x_0, .i x_1, .i x_2, .i x_3, .lr c_0] => some (x_0, x_1, x_2, x_3, c_0)
  | _ => none
def alloc_claims_Push.un : (Int × Int × Int × Int × List (List Int)) → List Lf
  | (x_0, x_1, x_2, x_3, c_0) => [.i x_0, .i x_1, .i x_2, .i x_3, .lr c_0]
theorem alloc_claims_Push.hcv : ∀ ls d, alloc_claims_Push.cv ls = some d → ls = alloc_claims_Push.un d := by
  intro ls d h; unfold alloc_claims_Push.cv at h; split at h <;> first | (cases h; rfl) | cases h
def alloc_claims_Push.r0 : Sk := { nt := 1, n0 := 2, slots := [(0, .tuple [])], blocks := [(.vals 1 [.whole 2], .rw), (.dead, .own), (.recs [.i64, .i64, .i64, .i64], .own)] }
def alloc_claims_Push.z0 : List Lf → Option (List (List Int))
  | [.lr b0_0] => some b0_0
  | _ => none
def alloc_claims_Push.fins : List (Sk × (List Lf → Option (List (List Int)))) := [(alloc_claims_Push.r0, alloc_claims_Push.z0)]
def alloc_claims_Push.fx : (List (List Int)) → Sk × List Lf
  | b0_0 => (alloc_claims_Push.r0, [.lr b0_0])
def alloc_claims_Push.outK (X : Type) (o : (List (List Int))) (k : AV → Heap → Option X) : Option X :=
  match o with
  | b0_0 => k (tget (fiS alloc_claims_Push.r0 [.lr b0_0]).tmps 0) (fiS alloc_claims_Push.r0 [.lr b0_0]).heap
theorem alloc_claims_Push.hfx : FinOk 2 alloc_claims_Push.fins alloc_claims_Push.fx :=
  finOk_cons rfl rfl (by intro ls o h; unfold alloc_claims_Push.z0 at h; split at h <;> first | (cases h; rfl) | cases h) (finOk_nil)
def alloc_claims_Push.g : (Int × Int × Int × Int × List (List Int)) → Option (List (List Int))
  | (x_0, x_1, x_2, x_3, c_0) => alloc_claims_Push x_0 x_1 x_2 x_3 c_0
def alloc_claims_Push.J : FC := fun X => callF alloc_claims_Push.ps alloc_claims_Push.bs (fun ls => (alloc_claims_Push.cv ls).bind alloc_claims_Push.g) (alloc_claims_Push.outK X)
noncomputable def alloc_claims_Push.ctx (k : Nat) (X : Type) : Ctx X := mkCtx Try.prog (alloc_claims_Push.T k) [] [] X
theorem alloc_claims_Push.fits (k : Nat) : fitsL (alloc_claims_Push.ctx k (List (List Int))) (bodyOf Try.f94) = [] := by kernel_rfl
theorem alloc_claims_Push.run (k : Nat) (d : (Int × Int × Int × Int × List (List Int))) : evC (alloc_claims_Push.ctx k (List (List Int))) (bodyOf Try.f94) (funcK Try.prog Try.f94.results.toList alloc_claims_Push.fins) (fiA Try.f94.ntmps alloc_claims_Push.ps alloc_claims_Push.bs (alloc_claims_Push.un d)) = alloc_claims_Push.g d := by
  obtain ⟨x_0, x_1, x_2, x_3, c_0⟩ := d; kernel_rfl
theorem alloc_claims_Push.ok : CallOk Try.prog 94 (alloc_claims_Push.J) :=
  func_mk (P := Try.prog) (n0 := 2) (ps := alloc_claims_Push.ps) (bs := alloc_claims_Push.bs) (fins := alloc_claims_Push.fins) (fx := alloc_claims_Push.fx) (g := alloc_claims_Push.g) (cv := alloc_claims_Push.cv) (un := alloc_claims_Push.un) (c := alloc_claims_Push.ctx 0) (ctx_ok (alloc_claims_Push.rows 0) _ _) rfl hm0 Try.func94 (by kernel_rfl) (by kernel_rfl) rfl (fits_of (alloc_claims_Push.fits 0) (fits_nil)) (Nat.le_of_ble_eq_true (by kernel_rfl)) alloc_claims_Push.hcv alloc_claims_Push.hfx (alloc_claims_Push.run 0) (outK := alloc_claims_Push.outK) (by intro X o k; rcases o with b0_0 <;> rfl)

-- (madrigal/alloc.claims).Len
def alloc_claims_Len (c : List (List Int)) : Option (Int × List (List Int)) :=
  some ((((c.length) : Nat) : Int), c)
noncomputable def alloc_claims_Len.code : Code := bodyOf Try.f87
noncomputable def alloc_claims_Len.T (k : Nat) : List Row := []
theorem alloc_claims_Len.rows (k : Nat) : RowsOk Try.prog (alloc_claims_Len.T k) := rows_nil _
def alloc_claims_Len.ps : List SV := [.whole 0]
def alloc_claims_Len.bs : List (SB × Md) := [(.recs [.i64, .i64, .i64, .i64], .ro)]
def alloc_claims_Len.cv : List Lf → Option (List (List Int))
  | [.lr c] => some c
  | _ => none
def alloc_claims_Len.un : (List (List Int)) → List Lf
  | c => [.lr c]
theorem alloc_claims_Len.hcv : ∀ ls d, alloc_claims_Len.cv ls = some d → ls = alloc_claims_Len.un d := by
  intro ls d h; unfold alloc_claims_Len.cv at h; split at h <;> first | (cases h; rfl) | cases h
def alloc_claims_Len.r0 : Sk := { nt := 1, n0 := 1, slots := [(0, .int .i64)], blocks := [(.recs [.i64, .i64, .i64, .i64], .ro)] }
def alloc_claims_Len.z0 : List Lf → Option (Int × List (List Int))
  | [.i r, .lr b0] => some (r, b0)
  | _ => none
def alloc_claims_Len.fins : List (Sk × (List Lf → Option (Int × List (List Int)))) := [(alloc_claims_Len.r0, alloc_claims_Len.z0)]
def alloc_claims_Len.fx : (Int × List (List Int)) → Sk × List Lf
  | (r, b0) => (alloc_claims_Len.r0, [.i r, .lr b0])
def alloc_claims_Len.outK (X : Type) (o : (Int × List (List Int))) (k : AV → Heap → Option X) : Option X :=
  match o with
  | (r, b0) => k (tget (fiS alloc_claims_Len.r0 [.i r, .lr b0]).tmps 0) (fiS alloc_claims_Len.r0 [.i r, .lr b0]).heap
theorem alloc_claims_Len.hfx : FinOk 1 alloc_claims_Len.fins alloc_claims_Len.fx :=
  finOk_cons rfl rfl (by intro ls o h; unfold alloc_claims_Len.z0 at h; split at h <;> first | (cases h; rfl) | cases h) (finOk_nil)
def alloc_claims_Len.g : (List (List Int)) → Option (Int × List (List Int))
  | c => alloc_claims_Len c
def alloc_claims_Len.J : FC := fun X => callF alloc_claims_Len.ps alloc_claims_Len.bs (fun ls => (alloc_claims_Len.cv ls).bind alloc_claims_Len.g) (alloc_claims_Len.outK X)
noncomputable def alloc_claims_Len.ctx (k : Nat) (X : Type) : Ctx X := mkCtx Try.prog (alloc_claims_Len.T k) [] [] X
theorem alloc_claims_Len.fits (k : Nat) : fitsL (alloc_claims_Len.ctx k (Int × List (List Int))) (bodyOf Try.f87) = [] := by kernel_rfl
theorem alloc_claims_Len.run (k : Nat) (d : (List (List Int))) : evC (alloc_claims_Len.ctx k (Int × List (List Int))) (bodyOf Try.f87) (funcK Try.prog Try.f87.results.toList alloc_claims_Len.fins) (fiA Try.f87.ntmps alloc_claims_Len.ps alloc_claims_Len.bs (alloc_claims_Len.un d)) = alloc_claims_Len.g d := by
  kernel_rfl
theorem alloc_claims_Len.ok : CallOk Try.prog 87 (alloc_claims_Len.J) :=
  func_mk (P := Try.prog) (n0 := 1) (ps := alloc_claims_Len.ps) (bs := alloc_claims_Len.bs) (fins := alloc_claims_Len.fins) (fx := alloc_claims_Len.fx) (g := alloc_claims_Len.g) (cv := alloc_claims_Len.cv) (un := alloc_claims_Len.un) (c := alloc_claims_Len.ctx 0) (ctx_ok (alloc_claims_Len.rows 0) _ _) rfl hm0 Try.func87 (by kernel_rfl) (by kernel_rfl) rfl (fits_of (alloc_claims_Len.fits 0) (fits_nil)) (Nat.le_of_ble_eq_true (by kernel_rfl)) alloc_claims_Len.hcv alloc_claims_Len.hfx (alloc_claims_Len.run 0) (outK := alloc_claims_Len.outK) (by intro X o k; rcases o with ⟨r, b0⟩ <;> rfl)

-- madrigal/fix.Clamp
def fix_Clamp (a : Int) (lo : Int) (hi : Int) : Option (Int) :=
  br (decide (hi < lo)) (
    some lo)
  (
    br (decide (a < lo)) (
      some lo)
    (
      br (decide (hi < a)) (
        some hi)
      (
        some a)))
noncomputable def fix_Clamp.code : Code := bodyOf Try.f54
noncomputable def fix_Clamp.T (k : Nat) : List Row := []
theorem fix_Clamp.rows (k : Nat) : RowsOk Try.prog (fix_Clamp.T k) := rows_nil _
def fix_Clamp.ps : List SV := [.int .i64, .int .i64, .int .i64]
def fix_Clamp.bs : List (SB × Md) := []
def fix_Clamp.cv : List Lf → Option (Int × Int × Int)
  | [.i a, .i lo, .i hi] => some (a, lo, hi)
  | _ => none
def fix_Clamp.un : (Int × Int × Int) → List Lf
  | (a, lo, hi) => [.i a, .i lo, .i hi]
theorem fix_Clamp.hcv : ∀ ls d, fix_Clamp.cv ls = some d → ls = fix_Clamp.un d := by
  intro ls d h; unfold fix_Clamp.cv at h; split at h <;> first | (cases h; rfl) | cases h
def fix_Clamp.r0 : Sk := { nt := 1, n0 := 0, slots := [(0, .int .i64)], blocks := [] }
def fix_Clamp.z0 : List Lf → Option (Int)
  | [.i r] => some r
  | _ => none
def fix_Clamp.fins : List (Sk × (List Lf → Option (Int))) := [(fix_Clamp.r0, fix_Clamp.z0)]
def fix_Clamp.fx : (Int) → Sk × List Lf
  | r => (fix_Clamp.r0, [.i r])
def fix_Clamp.outK (X : Type) (o : (Int)) (k : AV → Heap → Option X) : Option X :=
  match o with
  | r => k (tget (fiS fix_Clamp.r0 [.i r]).tmps 0) (fiS fix_Clamp.r0 [.i r]).heap
theorem fix_Clamp.hfx : FinOk 0 fix_Clamp.fins fix_Clamp.fx :=
  finOk_cons rfl rfl (by intro ls o h; unfold fix_Clamp.z0 at h; split at h <;> first | (cases h; rfl) | cases h) (finOk_nil)
def fix_Clamp.g : (Int × Int × Int) → Option (Int)
  | (a, lo, hi) => fix_Clamp a lo hi
def fix_Clamp.J : FC := fun X => callF fix_Clamp.ps fix_Clamp.bs (fun ls => (fix_Clamp.cv ls).bind fix_Clamp.g) (fix_Clamp.outK X)
noncomputable def fix_Clamp.ctx (k : Nat) (X : Type) : Ctx X := mkCtx Try.prog (fix_Clamp.T k) [] [] X
theorem fix_Clamp.fits (k : Nat) : fitsL (fix_Clamp.ctx k (Int)) (bodyOf Try.f54) = [] := by kernel_rfl
theorem fix_Clamp.run (k : Nat) (d : (Int × Int × Int)) : evC (fix_Clamp.ctx k (Int)) (bodyOf Try.f54) (funcK Try.prog Try.f54.results.toList fix_Clamp.fins) (fiA Try.f54.ntmps fix_Clamp.ps fix_Clamp.bs (fix_Clamp.un d)) = fix_Clamp.g d := by
  obtain ⟨a, lo, hi⟩ := d; kernel_rfl
theorem fix_Clamp.ok : CallOk Try.prog 54 (fix_Clamp.J) :=
  func_mk (P := Try.prog) (n0 := 0) (ps := fix_Clamp.ps) (bs := fix_Clamp.bs) (fins := fix_Clamp.fins) (fx := fix_Clamp.fx) (g := fix_Clamp.g) (cv := fix_Clamp.cv) (un := fix_Clamp.un) (c := fix_Clamp.ctx 0) (ctx_ok (fix_Clamp.rows 0) _ _) rfl hm0 Try.func54 (by kernel_rfl) (by kernel_rfl) rfl (fits_of (fix_Clamp.fits 0) (fits_nil)) (Nat.le_of_ble_eq_true (by kernel_rfl)) fix_Clamp.hcv fix_Clamp.hfx (fix_Clamp.run 0) (outK := fix_Clamp.outK) (by intro X o k; rcases o with r <;> rfl)

-- madrigal/fix.factor
def fix_factor (a : Int) : Option (Int) :=
  (fix_Clamp a (-2147483648) 2147483648).bind fun t4 =>
  some t4
noncomputable def fix_factor.code : Code := bodyOf Try.f92
noncomputable def fix_factor.T (k : Nat) : List Row := [⟨54, fix_Clamp.ps, fix_Clamp.bs, fix_Clamp.J⟩]
theorem fix_factor.rows (k : Nat) : RowsOk Try.prog (fix_factor.T k) := rows_cons (fix_Clamp.ok) (rows_nil _)
def fix_factor.ps : List SV := [.int .i64]
def fix_factor.bs : List (SB × Md) := []
def fix_factor.cv : List Lf → Option (Int)
  | [.i a] => some a
  | _ => none
def fix_factor.un : (Int) → List Lf
  | a => [.i a]
theorem fix_factor.hcv : ∀ ls d, fix_factor.cv ls = some d → ls = fix_factor.un d := by
  intro ls d h; unfold fix_factor.cv at h; split at h <;> first | (cases h; rfl) | cases h
def fix_factor.r0 : Sk := { nt := 1, n0 := 0, slots := [(0, .int .i64)], blocks := [] }
def fix_factor.z0 : List Lf → Option (Int)
  | [.i r] => some r
  | _ => none
def fix_factor.fins : List (Sk × (List Lf → Option (Int))) := [(fix_factor.r0, fix_factor.z0)]
def fix_factor.fx : (Int) → Sk × List Lf
  | r => (fix_factor.r0, [.i r])
def fix_factor.outK (X : Type) (o : (Int)) (k : AV → Heap → Option X) : Option X :=
  match o with
  | r => k (tget (fiS fix_factor.r0 [.i r]).tmps 0) (fiS fix_factor.r0 [.i r]).heap
theorem fix_factor.hfx : FinOk 0 fix_factor.fins fix_factor.fx :=
  finOk_cons rfl rfl (by intro ls o h; unfold fix_factor.z0 at h; split at h <;> first | (cases h; rfl) | cases h) (finOk_nil)
def fix_factor.g : (Int) → Option (Int)
  | a => fix_factor a
def fix_factor.J : FC := fun X => callF fix_factor.ps fix_factor.bs (fun ls => (fix_factor.cv ls).bind fix_factor.g) (fix_factor.outK X)
noncomputable def fix_factor.ctx (k : Nat) (X : Type) : Ctx X := mkCtx Try.prog (fix_factor.T k) [] [] X
theorem fix_factor.fits (k : Nat) : fitsL (fix_factor.ctx k (Int)) (bodyOf Try.f92) = [] := by kernel_rfl
theorem fix_factor.run (k : Nat) (d : (Int)) : evC (fix_factor.ctx k (Int)) (bodyOf Try.f92) (funcK Try.prog Try.f92.results.toList fix_factor.fins) (fiA Try.f92.ntmps fix_factor.ps fix_factor.bs (fix_factor.un d)) = fix_factor.g d := by
  kernel_rfl
theorem fix_factor.ok : CallOk Try.prog 92 (fix_factor.J) :=
  func_mk (P := Try.prog) (n0 := 0) (ps := fix_factor.ps) (bs := fix_factor.bs) (fins := fix_factor.fins) (fx := fix_factor.fx) (g := fix_factor.g) (cv := fix_factor.cv) (un := fix_factor.un) (c := fix_factor.ctx 0) (ctx_ok (fix_factor.rows 0) _ _) rfl hm0 Try.func92 (by kernel_rfl) (by kernel_rfl) rfl (fits_of (fix_factor.fits 0) (fits_nil)) (Nat.le_of_ble_eq_true (by kernel_rfl)) fix_factor.hcv fix_factor.hfx (fix_factor.run 0) (outK := fix_factor.outK) (by intro X o k; rcases o with r <;> rfl)

-- madrigal/fix.Div
def fix_Div (a : Int) (b : Int) (s : Int) : Option (Int) :=
  (fix_factor a).bind fun t9 =>
  (fix_factor b).bind fun t11 =>
  br (decide (t11 = 0)) (
    some 0)
  (
    br (decide (s < 0)) (
      some 0)
    (
      br (decide (30 < s)) (
        some 0)
      (
        need (0 ≤ s) <|
        need (t11 ≠ 0) <|
        let t27 := IntKind.i64.wrap ((IntKind.i64.wrap (t9 * 2 ^ (min (s.toNat) 64))).tdiv t11)
        need (t11 ≠ 0) <|
        br (!decide (((IntKind.i64.wrap (t9 * 2 ^ (min (s.toNat) 64))).tmod t11) = 0)) (
          br (!((decide ((IntKind.i64.wrap (t9 * 2 ^ (min (s.toNat) 64))) < 0)) == (decide (t11 < 0)))) (
            some (IntKind.i64.wrap (t27 - 1)))
          (
            some t27))
        (
          some t27))))
noncomputable def fix_Div.code : Code := bodyOf Try.f91
noncomputable def fix_Div.T (k : Nat) : List Row := [⟨92, fix_factor.ps, fix_factor.bs, fix_factor.J⟩]
theorem fix_Div.rows (k : Nat) : RowsOk Try.prog (fix_Div.T k) := rows_cons (fix_factor.ok) (rows_nil _)
def fix_Div.ps : List SV := [.int .i64, .int .i64, .int .i64]
def fix_Div.bs : List (SB × Md) := []
def fix_Div.cv : List Lf → Option (Int × Int × Int)
  | [.i a, .i b, .i s] => some (a, b, s)
  | _ => none
def fix_Div.un : (Int × Int × Int) → List Lf
  | (a, b, s) => [.i a, .i b, .i s]
theorem fix_Div.hcv : ∀ ls d, fix_Div.cv ls = some d → ls = fix_Div.un d := by
  intro ls d h; unfold fix_Div.cv at h; split at h <;> first | (cases h; rfl) | cases h
def fix_Div.r0 : Sk := { nt := 1, n0 := 0, slots := [(0, .int .i64)], blocks := [] }
def fix_Div.z0 : List Lf → Option (Int)
  | [.i r] => some r
  | _ => none
def fix_Div.fins : List (Sk × (List Lf → Option (Int))) := [(fix_Div.r0, fix_Div.z0)]
def fix_Div.fx : (Int) → Sk × List Lf
  | r => (fix_Div.r0, [.i r])
def fix_Div.outK (X : Type) (o : (Int)) (k : AV → Heap → Option X) : Option X :=
  match o with
  | r => k (tget (fiS fix_Div.r0 [.i r]).tmps 0) (fiS fix_Div.r0 [.i r]).heap
theorem fix_Div.hfx : FinOk 0 fix_Div.fins fix_Div.fx :=
  finOk_cons rfl rfl (by intro ls o h; unfold fix_Div.z0 at h; split at h <;> first | (cases h; rfl) | cases h) (finOk_nil)
def fix_Div.g : (Int × Int × Int) → Option (Int)
  | (a, b, s) => fix_Div a b s
def fix_Div.J : FC := fun X => callF fix_Div.ps fix_Div.bs (fun ls => (fix_Div.cv ls).bind fix_Div.g) (fix_Div.outK X)
noncomputable def fix_Div.ctx (k : Nat) (X : Type) : Ctx X := mkCtx Try.prog (fix_Div.T k) [] [] X
theorem fix_Div.fits (k : Nat) : fitsL (fix_Div.ctx k (Int)) (bodyOf Try.f91) = [] := by kernel_rfl
theorem fix_Div.run (k : Nat) (d : (Int × Int × Int)) : evC (fix_Div.ctx k (Int)) (bodyOf Try.f91) (funcK Try.prog Try.f91.results.toList fix_Div.fins) (fiA Try.f91.ntmps fix_Div.ps fix_Div.bs (fix_Div.un d)) = fix_Div.g d := by
  obtain ⟨a, b, s⟩ := d; kernel_rfl
theorem fix_Div.ok : CallOk Try.prog 91 (fix_Div.J) :=
  func_mk (P := Try.prog) (n0 := 0) (ps := fix_Div.ps) (bs := fix_Div.bs) (fins := fix_Div.fins) (fx := fix_Div.fx) (g := fix_Div.g) (cv := fix_Div.cv) (un := fix_Div.un) (c := fix_Div.ctx 0) (ctx_ok (fix_Div.rows 0) _ _) rfl hm0 Try.func91 (by kernel_rfl) (by kernel_rfl) rfl (fits_of (fix_Div.fits 0) (fits_nil)) (Nat.le_of_ble_eq_true (by kernel_rfl)) fix_Div.hcv fix_Div.hfx (fix_Div.run 0) (outK := fix_Div.outK) (by intro X o k; rcases o with r <;> rfl)

-- (madrigal/alloc.band).claim
def alloc_band_claim (b_0 : Int) (b_1 : Int) (b_2 : Int) (b_3 : Int) : Option (Int) :=
  (fix_Div (IntKind.i64.wrap (64 * b_3)) b_1 0).bind fun t11 =>
  some (IntKind.i64.wrap ((IntKind.i64.wrap (16 * b_2)) - t11))
noncomputable def alloc_band_claim.code : Code := bodyOf Try.f90
noncomputable def alloc_band_claim.T (k : Nat) : List Row := [⟨91, fix_Div.ps, fix_Div.bs, fix_Div.J⟩]
theorem alloc_band_claim.rows (k : Nat) : RowsOk Try.prog (alloc_band_claim.T k) := rows_cons (fix_Div.ok) (rows_nil _)
def alloc_band_claim.ps : List SV := [.agg [.int .i64, .int .i64, .int .i64, .int .i64]]
def alloc_band_claim.bs : List (SB × Md) := []
def alloc_band_claim.cv : List Lf → Option (Int × Int × Int × Int)
  | [.i b_0, .i b_1, .i b_2, .i b_3] => some (b_0, b_1, b_2, b_3)
  | _ => none
def alloc_band_claim.un : (Int × Int × Int × Int) → List Lf
  | (b_0, b_1, b_2, b_3) => [.i b_0, .i b_1, .i b_2, .i b_3]
theorem alloc_band_claim.hcv : ∀ ls d, alloc_band_claim.cv ls = some d → ls = alloc_band_claim.un d := by
  intro ls d h; unfold alloc_band_claim.cv at h; split at h <;> first | (cases h; rfl) | cases h
def alloc_band_claim.r0 : Sk := { nt := 1, n0 := 0, slots := [(0, .int .i64)], blocks := [] }
def alloc_band_claim.z0 : List Lf → Option (Int)
  | [.i r] => some r
  | _ => none
def alloc_band_claim.fins : List (Sk × (List Lf → Option (Int))) := [(alloc_band_claim.r0, alloc_band_claim.z0)]
def alloc_band_claim.fx : (Int) → Sk × List Lf
  | r => (alloc_band_claim.r0, [.i r])
def alloc_band_claim.outK (X : Type) (o : (Int)) (k : AV → Heap → Option X) : Option X :=
  match o with
  | r => k (tget (fiS alloc_band_claim.r0 [.i r]).tmps 0) (fiS alloc_band_claim.r0 [.i r]).heap
theorem alloc_band_claim.hfx : FinOk 0 alloc_band_claim.fins alloc_band_claim.fx :=
  finOk_cons rfl rfl (by intro ls o h; unfold alloc_band_claim.z0 at h; split at h <;> first | (cases h; rfl) | cases h) (finOk_nil)
def alloc_band_claim.g : (Int × Int × Int × Int) → Option (Int)
  | (b_0, b_1, b_2, b_3) => alloc_band_claim b_0 b_1 b_2 b_3
def alloc_band_claim.J : FC := fun X => callF alloc_band_claim.ps alloc_band_claim.bs (fun ls => (alloc_band_claim.cv ls).bind alloc_band_claim.g) (alloc_band_claim.outK X)
noncomputable def alloc_band_claim.ctx (k : Nat) (X : Type) : Ctx X := mkCtx Try.prog (alloc_band_claim.T k) [] [] X
theorem alloc_band_claim.fits (k : Nat) : fitsL (alloc_band_claim.ctx k (Int)) (bodyOf Try.f90) = [] := by kernel_rfl
theorem alloc_band_claim.run (k : Nat) (d : (Int × Int × Int × Int)) : evC (alloc_band_claim.ctx k (Int)) (bodyOf Try.f90) (funcK Try.prog Try.f90.results.toList alloc_band_claim.fins) (fiA Try.f90.ntmps alloc_band_claim.ps alloc_band_claim.bs (alloc_band_claim.un d)) = alloc_band_claim.g d := by
  obtain ⟨b_0, b_1, b_2, b_3⟩ := d; kernel_rfl
theorem alloc_band_claim.ok : CallOk Try.prog 90 (alloc_band_claim.J) :=
  func_mk (P := Try.prog) (n0 := 0) (ps := alloc_band_claim.ps) (bs := alloc_band_claim.bs) (fins := alloc_band_claim.fins) (fx := alloc_band_claim.fx) (g := alloc_band_claim.g) (cv := alloc_band_claim.cv) (un := alloc_band_claim.un) (c := alloc_band_claim.ctx 0) (ctx_ok (alloc_band_claim.rows 0) _ _) rfl hm0 Try.func90 (by kernel_rfl) (by kernel_rfl) rfl (fits_of (alloc_band_claim.fits 0) (fits_nil)) (Nat.le_of_ble_eq_true (by kernel_rfl)) alloc_band_claim.hcv alloc_band_claim.hfx (alloc_band_claim.run 0) (outK := alloc_band_claim.outK) (by intro X o k; rcases o with r <;> rfl)

-- (madrigal/alloc.claims).Less
def alloc_claims_Less (i : Int) (j : Int) (c : List (List Int)) : Option (Bool × List (List Int)) :=
  need (0 ≤ i ∧ i < (((c.length) : Nat) : Int)) <|
  (alloc_band_claim ((c.getD (i.toNat) []).getD 0 0) ((c.getD (i.toNat) []).getD 1 0) ((c.getD (i.toNat) []).getD 2 0) ((c.getD (i.toNat) []).getD 3 0)).bind fun t13 =>
  need (0 ≤ j ∧ j < (((c.length) : Nat) : Int)) <|
  (alloc_band_claim ((c.getD (j.toNat) []).getD 0 0) ((c.getD (j.toNat) []).getD 1 0) ((c.getD (j.toNat) []).getD 2 0) ((c.getD (j.toNat) []).getD 3 0)).bind fun t18 =>
  br (decide (t18 < t13)) (
    some (true, c))
  (
    br (decide (t13 = t18)) (
      need (0 ≤ i ∧ i < (((c.length) : Nat) : Int)) <|
      need (0 ≤ j ∧ j < (((c.length) : Nat) : Int)) <|
      some (decide (((c.getD (i.toNat) []).getD 0 0) < ((c.getD (j.toNat) []).getD 0 0)), c))
    (
      some (false, c)))
noncomputable def alloc_claims_Less.code : Code := bodyOf Try.f88
noncomputable def alloc_claims_Less.T (k : Nat) : List Row := [⟨90, alloc_band_claim.ps, alloc_band_claim.bs, alloc_band_claim.J⟩]
theorem alloc_claims_Less.rows (k : Nat) : RowsOk Try.prog (alloc_claims_Less.T k) := rows_cons (alloc_band_claim.ok) (rows_nil _)
def alloc_claims_Less.ps : List SV := [.whole 0, .int .i64, .int .i64]
def alloc_claims_Less.bs : List (SB × Md) := [(.recs [.i64, .i64, .i64, .i64], .ro)]
def alloc_claims_Less.cv : List Lf → Option (Int × Int × List (List Int))
  | [.i i, .i j, .lr c] => some (i, j, c)
  | _ => none
def alloc_claims_Less.un : (Int × Int × List (List Int)) → List Lf
  | (i, j, c) => [.i i, .i j, .lr c]
theorem alloc_claims_Less.hcv : ∀ ls d, alloc_claims_Less.cv ls = some d → ls = alloc_claims_Less.un d := by
  intro ls d h; unfold alloc_claims_Less.cv at h; split at h <;> first | (cases h; rfl) | cases h
def alloc_claims_Less.r0 : Sk := { nt := 1, n0 := 1, slots := [(0, .bool)], blocks := [(.recs [.i64, .i64, .i64, .i64], .ro)] }
def alloc_claims_Less.z0 : List Lf → Option (Bool × List (List Int))
  | [.b r, .lr b0] => some (r, b0)
  | _ => none
def alloc_claims_Less.fins : List (Sk × (List Lf → Option (Bool × List (List Int)))) := [(alloc_claims_Less.r0, alloc_claims_Less.z0)]
def alloc_claims_Less.fx : (Bool × List (List Int)) → Sk × List Lf
  | (r, b0) => (alloc_claims_Less.r0, [.b r, .lr b0])
def alloc_claims_Less.outK (X : Type) (o : (Bool × List (List Int))) (k : AV → Heap → Option X) : Option X :=
  match o with
  | (r, b0) => k (tget (fiS alloc_claims_Less.r0 [.b r, .lr b0]).tmps 0) (fiS alloc_claims_Less.r0 [.b r, .lr b0]).heap
theorem alloc_claims_Less.hfx : FinOk 1 alloc_claims_Less.fins alloc_claims_Less.fx :=
  finOk_cons rfl rfl (by intro ls o h; unfold alloc_claims_Less.z0 at h; split at h <;> first | (cases h; rfl) | cases h) (finOk_nil)
def alloc_claims_Less.g : (Int × Int × List (List Int)) → Option (Bool × List (List Int))
  | (i, j, c) => alloc_claims_Less i j c
def alloc_claims_Less.J : FC := fun X => callF alloc_claims_Less.ps alloc_claims_Less.bs (fun ls => (alloc_claims_Less.cv ls).bind alloc_claims_Less.g) (alloc_claims_Less.outK X)
noncomputable def alloc_claims_Less.ctx (k : Nat) (X : Type) : Ctx X := mkCtx Try.prog (alloc_claims_Less.T k) [] [] X
theorem alloc_claims_Less.fits (k : Nat) : fitsL (alloc_claims_Less.ctx k (Bool × List (List Int))) (bodyOf Try.f88) = [] := by kernel_rfl
theorem alloc_claims_Less.run (k : Nat) (d : (Int × Int × List (List Int))) : evC (alloc_claims_Less.ctx k (Bool × List (List Int))) (bodyOf Try.f88) (funcK Try.prog Try.f88.results.toList alloc_claims_Less.fins) (fiA Try.f88.ntmps alloc_claims_Less.ps alloc_claims_Less.bs (alloc_claims_Less.un d)) = alloc_claims_Less.g d := by
  obtain ⟨i, j, c⟩ := d; kernel_rfl
theorem alloc_claims_Less.ok : CallOk Try.prog 88 (alloc_claims_Less.J) :=
  func_mk (P := Try.prog) (n0 := 1) (ps := alloc_claims_Less.ps) (bs := alloc_claims_Less.bs) (fins := alloc_claims_Less.fins) (fx := alloc_claims_Less.fx) (g := alloc_claims_Less.g) (cv := alloc_claims_Less.cv) (un := alloc_claims_Less.un) (c := alloc_claims_Less.ctx 0) (ctx_ok (alloc_claims_Less.rows 0) _ _) rfl hm0 Try.func88 (by kernel_rfl) (by kernel_rfl) rfl (fits_of (alloc_claims_Less.fits 0) (fits_nil)) (Nat.le_of_ble_eq_true (by kernel_rfl)) alloc_claims_Less.hcv alloc_claims_Less.hfx (alloc_claims_Less.run 0) (outK := alloc_claims_Less.outK) (by intro X o k; rcases o with ⟨r, b0⟩ <;> rfl)

-- (madrigal/alloc.claims).Swap
def alloc_claims_Swap (i : Int) (j : Int) (c : List (List Int)) : Option (List (List Int)) :=
  need (0 ≤ j ∧ j < (((c.length) : Nat) : Int)) <|
  need (0 ≤ i ∧ i < (((c.length) : Nat) : Int)) <|
  need (0 ≤ i ∧ i < (((c.length) : Nat) : Int)) <|
  let l0 := c.set (i.toNat) [(c.getD (j.toNat) []).getD 0 0, (c.getD (j.toNat) []).getD 1 0, (c.getD (j.toNat) []).getD 2 0, (c.getD (j.toNat) []).getD 3 0]
  need (0 ≤ j ∧ j < (((l0.length) : Nat) : Int)) <|
  some (l0.set (j.toNat) [(c.getD (i.toNat) []).getD 0 0, (c.getD (i.toNat) []).getD 1 0, (c.getD (i.toNat) []).getD 2 0, (c.getD (i.toNat) []).getD 3 0])
noncomputable def alloc_claims_Swap.code : Code := bodyOf Try.f89
noncomputable def alloc_claims_Swap.T (k : Nat) : List Row := []
theorem alloc_claims_Swap.rows (k : Nat) : RowsOk Try.prog (alloc_claims_Swap.T k) := rows_nil _
def alloc_claims_Swap.ps : List SV := [.whole 0, .int .i64, .int .i64]
def alloc_claims_Swap.bs : List (SB × Md) := [(.recs [.i64, .i64, .i64, .i64], .rw)]
def alloc_claims_Swap.cv : List Lf → Option (Int × Int × List (List Int))
  | [.i i, .i j, .lr c] => some (i, j, c)
  | _ => none
def alloc_claims_Swap.un : (Int × Int × List (List Int)) → List Lf
  | (i, j, c) => [.i i, .i j, .lr c]
theorem alloc_claims_Swap.hcv : ∀ ls d, alloc_claims_Swap.cv ls = some d → ls = alloc_claims_Swap.un d := by
  intro ls d h; unfold alloc_claims_Swap.cv at h; split at h <;> first | (cases h; rfl) | cases h
def alloc_claims_Swap.r0 : Sk := { nt := 1, n0 := 1, slots := [(0, .tuple [])], blocks := [(.recs [.i64, .i64, .i64, .i64], .rw)] }
def alloc_claims_Swap.z0 : List Lf → Option (List (List Int))
  | [.lr b0] => some b0
  | _ => none
def alloc_claims_Swap.fins : List (Sk × (List Lf → Option (List (List Int)))) := [(alloc_claims_Swap.r0, alloc_claims_Swap.z0)]
def alloc_claims_Swap.fx : (List (List Int)) → Sk × List Lf
  | b0 => (alloc_claims_Swap.r0, [.lr b0])
def alloc_claims_Swap.outK (X : Type) (o : (List (List Int))) (k : AV → Heap → Option X) : Option X :=
  match o with
  | b0 => k (tget (fiS alloc_claims_Swap.r0 [.lr b0]).tmps 0) (fiS alloc_claims_Swap.r0 [.lr b0]).heap
theorem alloc_claims_Swap.hfx : FinOk 1 alloc_claims_Swap.fins alloc_claims_Swap.fx :=
  finOk_cons rfl rfl (by intro ls o h; unfold alloc_claims_Swap.z0 at h; split at h <;> first | (cases h; rfl) | cases h) (finOk_nil)
def alloc_claims_Swap.g : (Int × Int × List (List Int)) → Option (List (List Int))
  | (i, j, c) => alloc_claims_Swap i j c
def alloc_claims_Swap.J : FC := fun X => callF alloc_claims_Swap.ps alloc_claims_Swap.bs (fun ls => (alloc_claims_Swap.cv ls).bind alloc_claims_Swap.g) (alloc_claims_Swap.outK X)
noncomputable def alloc_claims_Swap.ctx (k : Nat) (X : Type) : Ctx X := mkCtx Try.prog (alloc_claims_Swap.T k) [] [] X
theorem alloc_claims_Swap.fits (k : Nat) : fitsL (alloc_claims_Swap.ctx k (List (List Int))) (bodyOf Try.f89) = [] := by kernel_rfl
theorem alloc_claims_Swap.run (k : Nat) (d : (Int × Int × List (List Int))) : evC (alloc_claims_Swap.ctx k (List (List Int))) (bodyOf Try.f89) (funcK Try.prog Try.f89.results.toList alloc_claims_Swap.fins) (fiA Try.f89.ntmps alloc_claims_Swap.ps alloc_claims_Swap.bs (alloc_claims_Swap.un d)) = alloc_claims_Swap.g d := by
  obtain ⟨i, j, c⟩ := d; kernel_rfl
theorem alloc_claims_Swap.ok : CallOk Try.prog 89 (alloc_claims_Swap.J) :=
  func_mk (P := Try.prog) (n0 := 1) (ps := alloc_claims_Swap.ps) (bs := alloc_claims_Swap.bs) (fins := alloc_claims_Swap.fins) (fx := alloc_claims_Swap.fx) (g := alloc_claims_Swap.g) (cv := alloc_claims_Swap.cv) (un := alloc_claims_Swap.un) (c := alloc_claims_Swap.ctx 0) (ctx_ok (alloc_claims_Swap.rows 0) _ _) rfl hm0 Try.func89 (by kernel_rfl) (by kernel_rfl) rfl (fits_of (alloc_claims_Swap.fits 0) (fits_nil)) (Nat.le_of_ble_eq_true (by kernel_rfl)) alloc_claims_Swap.hcv alloc_claims_Swap.hfx (alloc_claims_Swap.run 0) (outK := alloc_claims_Swap.outK) (by intro X o k; rcases o with b0 <;> rfl)

-- container/heap.up
def heap_up_l0 (k : Nat) : Nat → (Int × List (List Int)) → Option (List (List Int)) := itN fun rec d => match d with
  | (j, h_0) =>
    let t7 := IntKind.i64.wrap ((IntKind.i64.wrap (j - 1)).tdiv 2)
    br (decide (t7 = j)) (
      some h_0)
    (
      (alloc_claims_Less j t7 h_0).bind fun (t15, b0) =>
      br (!t15) (
        some h_0)
      (
        (alloc_claims_Swap t7 j h_0).bind fun b0_1 =>
        rec (t7, b0_1)))
def heap_up (k : Nat) (j : Int) (h_0 : List (List Int)) : Option (List (List Int)) :=
  (heap_up_l0 k k (j, h_0)).bind fun b0_0 =>
  some b0_0
noncomputable def heap_up.code : Code := bodyOf Try.f47
noncomputable def heap_up.T (k : Nat) : List Row := [⟨88, alloc_claims_Less.ps, alloc_claims_Less.bs, alloc_claims_Less.J⟩, ⟨89, alloc_claims_Swap.ps, alloc_claims_Swap.bs, alloc_claims_Swap.J⟩]
theorem heap_up.rows (k : Nat) : RowsOk Try.prog (heap_up.T k) := rows_cons (alloc_claims_Less.ok) (rows_cons (alloc_claims_Swap.ok) (rows_nil _))
def heap_up_l0.sk : Sk := { nt := 23, n0 := 2, slots := [(0, .iface 54 (.ptr0 0 0)), (1, .int .i64)], blocks := [(.vals 1 [.whole 1], .ro), (.recs [.i64, .i64, .i64, .i64], .rw)] }
def heap_up_l0.cv : List Lf → Option (Int × List (List Int))
  | [.i j, .lr h_0] => some (j, h_0)
  | _ => none
def heap_up_l0.un : (Int × List (List Int)) → List Lf
  | (j, h_0) => [.i j, .lr h_0]
theorem heap_up_l0.hcv : ∀ ls d, heap_up_l0.cv ls = some d → ls = heap_up_l0.un d := by
  intro ls d h; unfold heap_up_l0.cv at h; split at h <;> first | (cases h; rfl) | cases h
def heap_up_l0.x0 : Sk := { nt := 23, n0 := 2, slots := [], blocks := [(.vals 1 [.whole 1], .ro), (.recs [.i64, .i64, .i64, .i64], .rw)] }
def heap_up_l0.y0 : List Lf → Option (List (List Int))
  | [.lr b0_0] => some b0_0
  | _ => none
def heap_up_l0.exits : List (Nat × Sk × (List Lf → Option (List (List Int)))) := [(2, heap_up_l0.x0, heap_up_l0.y0)]
def heap_up_l0.ex : (List (List Int)) → Nat × Sk × List Lf
  | b0_0 => (2, heap_up_l0.x0, [.lr b0_0])
def heap_up_l0.exK (X : Type) (o : (List (List Int))) (k : Exit → St → Option X) : Option X :=
  match o with
  | b0_0 => k .normal (fiS heap_up_l0.x0 [.lr b0_0])
theorem heap_up_l0.hex : ExOk 2 heap_up_l0.exits heap_up_l0.ex :=
  exOk_cons rfl (by intro ls o h; unfold heap_up_l0.y0 at h; split at h <;> first | (cases h; rfl) | cases h) (exOk_nil)
noncomputable def heap_up_l0.ctx (k : Nat) (X : Type) : Ctx X := mkCtx Try.prog (heap_up.T k) [] [] X
theorem heap_up_l0.fits (k : Nat) : fitsL (heap_up_l0.ctx k (List (List Int))) (loopB 0 heap_up.code) = [] := by kernel_rfl
def heap_up_l0.J (k : Nat) (X : Type) : Contract X := fun c s => (pt heap_up_l0.sk heap_up_l0.cv s).bind fun d => (heap_up_l0 k k d).bind fun o => heap_up_l0.exK X o c
theorem heap_up_l0.run (k : Nat) (n : Nat) (d : (Int × List (List Int))) : evC (heap_up_l0.ctx k (List (List Int))) (loopB 0 heap_up.code) (backK (fun s => (pt heap_up_l0.sk heap_up_l0.cv s).bind (heap_up_l0 k n)) heap_up_l0.exits) (fiS heap_up_l0.sk (heap_up_l0.un d)) = heap_up_l0 k (n + 1) d := by
  obtain ⟨j, h_0⟩ := d; kernel_rfl
theorem heap_up_l0.ok (k : Nat) (X : Type) : CodeOk Try.prog 2 (.block 0 (.loop (loopB 0 heap_up.code))) (heap_up_l0.J k X) :=
  loop_mk (c := heap_up_l0.ctx k) (ctx_ok (heap_up.rows k) _ _) rfl hm0 (fits_of (heap_up_l0.fits k) (fits_nil)) rfl heap_up_l0.hcv heap_up_l0.hex (fun _ => rfl) (heap_up_l0.run k) (exK := heap_up_l0.exK) (by intro X o k; rcases o with b0_0 <;> rfl) k X
def heap_up.ps : List SV := [.iface 54 (.el 0 1), .int .i64]
def heap_up.bs : List (SB × Md) := [(.vals 1 [.whole 1], .ro), (.recs [.i64, .i64, .i64, .i64], .rw)]
def heap_up.cv : List Lf → Option (Int × List (List Int))
  | [.i j, .lr h_0] => some (j, h_0)
  | _ => none
def heap_up.un : (Int × List (List Int)) → List Lf
  | (j, h_0) => [.i j, .lr h_0]
theorem heap_up.hcv : ∀ ls d, heap_up.cv ls = some d → ls = heap_up.un d := by
  intro ls d h; unfold heap_up.cv at h; split at h <;> first | (cases h; rfl) | cases h
def heap_up.r0 : Sk := { nt := 1, n0 := 2, slots := [(0, .tuple [])], blocks := [(.vals 1 [.whole 1], .ro), (.recs [.i64, .i64, .i64, .i64], .rw)] }
def heap_up.z0 : List Lf → Option (List (List Int))
  | [.lr b0_0] => some b0_0
  | _ => none
def heap_up.fins : List (Sk × (List Lf → Option (List (List Int)))) := [(heap_up.r0, heap_up.z0)]
def heap_up.fx : (List (List Int)) → Sk × List Lf
  | b0_0 => (heap_up.r0, [.lr b0_0])
def heap_up.outK (X : Type) (o : (List (List Int))) (k : AV → Heap → Option X) : Option X :=
  match o with
  | b0_0 => k (tget (fiS heap_up.r0 [.lr b0_0]).tmps 0) (fiS heap_up.r0 [.lr b0_0]).heap
theorem heap_up.hfx : FinOk 2 heap_up.fins heap_up.fx :=
  finOk_cons rfl rfl (by intro ls o h; unfold heap_up.z0 at h; split at h <;> first | (cases h; rfl) | cases h) (finOk_nil)
def heap_up.g (k : Nat) : (Int × List (List Int)) → Option (List (List Int))
  | (j, h_0) => heap_up k j h_0
def heap_up.J (k : Nat) : FC := fun X => callF heap_up.ps heap_up.bs (fun ls => (heap_up.cv ls).bind (heap_up.g k)) (heap_up.outK X)
noncomputable def heap_up.ctx (k : Nat) (X : Type) : Ctx X := mkCtx Try.prog (heap_up.T k) [(0, heap_up_l0.J k)] [] X
theorem heap_up.fits (k : Nat) : fitsL (heap_up.ctx k (List (List Int))) (bodyOf Try.f47) = [(.block 0 (.loop (loopB 0 heap_up.code)), heap_up_l0.J k (List (List Int)))] := by kernel_rfl
theorem heap_up.run (k : Nat) (d : (Int × List (List Int))) : evC (heap_up.ctx k (List (List Int))) (bodyOf Try.f47) (funcK Try.prog Try.f47.results.toList heap_up.fins) (fiA Try.f47.ntmps heap_up.ps heap_up.bs (heap_up.un d)) = heap_up.g k d := by
  obtain ⟨j, h_0⟩ := d; kernel_rfl
theorem heap_up.ok (k : Nat) : CallOk Try.prog 47 (heap_up.J k) :=
  func_mk (P := Try.prog) (n0 := 2) (ps := heap_up.ps) (bs := heap_up.bs) (fins := heap_up.fins) (fx := heap_up.fx) (g := (heap_up.g k)) (cv := heap_up.cv) (un := heap_up.un) (c := heap_up.ctx k) (ctx_ok (heap_up.rows k) _ _) rfl hm0 Try.func47 (by kernel_rfl) (by kernel_rfl) rfl (fits_of (heap_up.fits k) (fits_cons (heap_up_l0.ok k _) (fits_nil))) (Nat.le_of_ble_eq_true (by kernel_rfl)) heap_up.hcv heap_up.hfx (heap_up.run k) (outK := heap_up.outK) (by intro X o k; rcases o with b0_0 <;> rfl)

-- container/heap.Push
def heap_Push (k : Nat) (x_0 : Int) (x_1 : Int) (x_2 : Int) (x_3 : Int) (h_0 : List (List Int)) : Option (List (List Int)) :=
  (alloc_claims_Push x_0 x_1 x_2 x_3 h_0).bind fun b0_0 =>
  (alloc_claims_Len b0_0).bind fun (t9, b0) =>
  (heap_up k (IntKind.i64.wrap (t9 - 1)) b0_0).bind fun b0_0_1 =>
  some b0_0_1
noncomputable def heap_Push.code : Code := bodyOf Try.f33
noncomputable def heap_Push.T (k : Nat) : List Row := [⟨94, alloc_claims_Push.ps, alloc_claims_Push.bs, alloc_claims_Push.J⟩, ⟨87, alloc_claims_Len.ps, alloc_claims_Len.bs, alloc_claims_Len.J⟩, ⟨47, heap_up.ps, heap_up.bs, heap_up.J k⟩]
theorem heap_Push.rows (k : Nat) : RowsOk Try.prog (heap_Push.T k) := rows_cons (alloc_claims_Push.ok) (rows_cons (alloc_claims_Len.ok) (rows_cons (heap_up.ok k) (rows_nil _)))
def heap_Push.ps : List SV := [.iface 54 (.el 0 1), .iface 56 (.agg [.int .i64, .int .i64, .int .i64, .int .i64])]
def heap_Push.bs : List (SB × Md) := [(.vals 1 [.whole 1], .rw), (.recs [.i64, .i64, .i64, .i64], .own)]
def heap_Push.cv : List Lf → Option (Int × Int × Int × Int × List (List Int))
  | [.i x_0, .i x_1, .i x_2, .i x_3, .lr h_0] => some (x_0, x_1, x_2, x_3, h_0)
  | _ => none
def heap_Push.un : (Int × Int × Int × Int × List (List Int)) → List Lf
  | (x_0, x_1, x_2, x_3, h_0) => [.i x_0, .i x_1, .i x_2, .i x_3, .lr h_0]
theorem heap_Push.hcv : ∀ ls d, heap_Push.cv ls = some d → ls = heap_Push.un d := by
  intro ls d h; unfold heap_Push.cv at h; split at h <;> first | (cases h; rfl) | cases h
def heap_Push.r0 : Sk := { nt := 1, n0 := 2, slots := [(0, .tuple [])], blocks := [(.vals 1 [.whole 2], .rw), (.dead, .own), (.recs [.i64, .i64, .i64, .i64], .own)] }
def heap_Push.z0 : List Lf → Option (List (List Int))
  | [.lr b0_0] => some b0_0
  | _ => none
def heap_Push.fins : List (Sk × (List Lf → Option (List (List Int)))) := [(heap_Push.r0, heap_Push.z0)]
def heap_Push.fx : (List (List Int)) → Sk × List Lf
  | b0_0 => (heap_Push.r0, [.lr b0_0])
def heap_Push.outK (X : Type) (o : (List (List Int))) (k : AV → Heap → Option X) : Option X :=
  match o with
  | b0_0 => k (tget (fiS heap_Push.r0 [.lr b0_0]).tmps 0) (fiS heap_Push.r0 [.lr b0_0]).heap
theorem heap_Push.hfx : FinOk 2 heap_Push.fins heap_Push.fx :=
  finOk_cons rfl rfl (by intro ls o h; unfold heap_Push.z0 at h; split at h <;> first | (cases h; rfl) | cases h) (finOk_nil)
def heap_Push.g (k : Nat) : (Int × Int × Int × Int × List (List Int)) → Option (List (List Int))
  | (x_0, x_1, x_2, x_3, h_0) => heap_Push k x_0 x_1 x_2 x_3 h_0
def heap_Push.J (k : Nat) : FC := fun X => callF heap_Push.ps heap_Push.bs (fun ls => (heap_Push.cv ls).bind (heap_Push.g k)) (heap_Push.outK X)
noncomputable def heap_Push.ctx (k : Nat) (X : Type) : Ctx X := mkCtx Try.prog (heap_Push.T k) [] [] X
theorem heap_Push.fits (k : Nat) : fitsL (heap_Push.ctx k (List (List Int))) (bodyOf Try.f33) = [] := by kernel_rfl
theorem heap_Push.run (k : Nat) (d : (Int × Int × Int × Int × List (List Int))) : evC (heap_Push.ctx k (List (List Int))) (bodyOf Try.f33) (funcK Try.prog Try.f33.results.toList heap_Push.fins) (fiA Try.f33.ntmps heap_Push.ps heap_Push.bs (heap_Push.un d)) = heap_Push.g k d := by
  obtain ⟨x_0, x_1, x_2, x_3, h_0⟩ := d; kernel_rfl
theorem heap_Push.ok (k : Nat) : CallOk Try.prog 33 (heap_Push.J k) :=
  func_mk (P := Try.prog) (n0 := 2) (ps := heap_Push.ps) (bs := heap_Push.bs) (fins := heap_Push.fins) (fx := heap_Push.fx) (g := (heap_Push.g k)) (cv := heap_Push.cv) (un := heap_Push.un) (c := heap_Push.ctx k) (ctx_ok (heap_Push.rows k) _ _) rfl hm0 Try.func33 (by kernel_rfl) (by kernel_rfl) rfl (fits_of (heap_Push.fits k) (fits_nil)) (Nat.le_of_ble_eq_true (by kernel_rfl)) heap_Push.hcv heap_Push.hfx (heap_Push.run k) (outK := heap_Push.outK) (by intro X o k; rcases o with b0_0 <;> rfl)

-- container/heap.down
def heap_down_l0 (k : Nat) : Nat → (Int × Int × Int × List (List Int)) → Option (Int × Int × List (List Int)) := itN fun rec d => match d with
  | (i0, n, i, h_0) =>
    let t14 := IntKind.i64.wrap ((IntKind.i64.wrap (2 * i)) + 1)
    br (decide (n ≤ t14)) (
      some (i0, i, h_0))
    (
      br (decide (t14 < 0)) (
        some (i0, i, h_0))
      (
        br (decide ((IntKind.i64.wrap (t14 + 1)) < n)) (
          (alloc_claims_Less (IntKind.i64.wrap (t14 + 1)) t14 h_0).bind fun (t32, b0) =>
          br t32 (
            (alloc_claims_Less (IntKind.i64.wrap (t14 + 1)) i h_0).bind fun (t38, b0_1) =>
            br (!t38) (
              some (i0, i, h_0))
            (
              (alloc_claims_Swap i (IntKind.i64.wrap (t14 + 1)) h_0).bind fun b0_2 =>
              rec (i0, n, IntKind.i64.wrap (t14 + 1), b0_2)))
          (
            (alloc_claims_Less t14 i h_0).bind fun (t38_1, b0_3) =>
            br (!t38_1) (
              some (i0, i, h_0))
            (
              (alloc_claims_Swap i t14 h_0).bind fun b0_4 =>
              rec (i0, n, t14, b0_4))))
        (
          (alloc_claims_Less t14 i h_0).bind fun (t38_2, b0_5) =>
          br (!t38_2) (
            some (i0, i, h_0))
          (
            (alloc_claims_Swap i t14 h_0).bind fun b0_6 =>
            rec (i0, n, t14, b0_6)))))
def heap_down (k : Nat) (i0 : Int) (n : Int) (h_0 : List (List Int)) : Option (Bool × List (List Int)) :=
  (heap_down_l0 k k (i0, n, i0, h_0)).bind fun (i0_1, i, b0_0) =>
  some (decide (i0_1 < i), b0_0)
noncomputable def heap_down.code : Code := bodyOf Try.f48
noncomputable def heap_down.T (k : Nat) : List Row := [⟨88, alloc_claims_Less.ps, alloc_claims_Less.bs, alloc_claims_Less.J⟩, ⟨89, alloc_claims_Swap.ps, alloc_claims_Swap.bs, alloc_claims_Swap.J⟩]
theorem heap_down.rows (k : Nat) : RowsOk Try.prog (heap_down.T k) := rows_cons (alloc_claims_Less.ok) (rows_cons (alloc_claims_Swap.ok) (rows_nil _))
def heap_down_l0.sk : Sk := { nt := 48, n0 := 2, slots := [(0, .iface 54 (.ptr0 0 0)), (1, .int .i64), (2, .int .i64), (7, .int .i64)], blocks := [(.vals 1 [.whole 1], .ro), (.recs [.i64, .i64, .i64, .i64], .rw)] }
def heap_down_l0.cv : List Lf → Option (Int × Int × Int × List (List Int))
  | [.i i0, .i n, .i i, .lr h_0] => some (i0, n, i, h_0)
  | _ => none
def heap_down_l0.un : (Int × Int × Int × List (List Int)) → List Lf
  | (i0, n, i, h_0) => [.i i0, .i n, .i i, .lr h_0]
theorem heap_down_l0.hcv : ∀ ls d, heap_down_l0.cv ls = some d → ls = heap_down_l0.un d := by
  intro ls d h; unfold heap_down_l0.cv at h; split at h <;> first | (cases h; rfl) | cases h
def heap_down_l0.x0 : Sk := { nt := 48, n0 := 2, slots := [(1, .int .i64), (7, .int .i64)], blocks := [(.vals 1 [.whole 1], .ro), (.recs [.i64, .i64, .i64, .i64], .rw)] }
def heap_down_l0.y0 : List Lf → Option (Int × Int × List (List Int))
  | [.i i0, .i i, .lr b0_0] => some (i0, i, b0_0)
  | _ => none
def heap_down_l0.exits : List (Nat × Sk × (List Lf → Option (Int × Int × List (List Int)))) := [(2, heap_down_l0.x0, heap_down_l0.y0)]
def heap_down_l0.ex : (Int × Int × List (List Int)) → Nat × Sk × List Lf
  | (i0, i, b0_0) => (2, heap_down_l0.x0, [.i i0, .i i, .lr b0_0])
def heap_down_l0.exK (X : Type) (o : (Int × Int × List (List Int))) (k : Exit → St → Option X) : Option X :=
  match o with
  | (i0, i, b0_0) => k .normal (fiS heap_down_l0.x0 [.i i0, .i i, .lr b0_0])
theorem heap_down_l0.hex : ExOk 2 heap_down_l0.exits heap_down_l0.ex :=
  exOk_cons rfl (by intro ls o h; unfold heap_down_l0.y0 at h; split at h <;> first | (cases h; rfl) | cases h) (exOk_nil)
noncomputable def heap_down_l0.ctx (k : Nat) (X : Type) : Ctx X := mkCtx Try.prog (heap_down.T k) [] [] X
theorem heap_down_l0.fits (k : Nat) : fitsL (heap_down_l0.ctx k (Int × Int × List (List Int))) (loopB 0 heap_down.code) = [] := by kernel_rfl
def heap_down_l0.J (k : Nat) (X : Type) : Contract X := fun c s => (pt heap_down_l0.sk heap_down_l0.cv s).bind fun d => (heap_down_l0 k k d).bind fun o => heap_down_l0.exK X o c
theorem heap_down_l0.run (k : Nat) (n : Nat) (d : (Int × Int × Int × List (List Int))) : evC (heap_down_l0.ctx k (Int × Int × List (List Int))) (loopB 0 heap_down.code) (backK (fun s => (pt heap_down_l0.sk heap_down_l0.cv s).bind (heap_down_l0 k n)) heap_down_l0.exits) (fiS heap_down_l0.sk (heap_down_l0.un d)) = heap_down_l0 k (n + 1) d := by
  obtain ⟨i0, n, i, h_0⟩ := d; kernel_rfl
theorem heap_down_l0.ok (k : Nat) (X : Type) : CodeOk Try.prog 2 (.block 0 (.loop (loopB 0 heap_down.code))) (heap_down_l0.J k X) :=
  loop_mk (c := heap_down_l0.ctx k) (ctx_ok (heap_down.rows k) _ _) rfl hm0 (fits_of (heap_down_l0.fits k) (fits_nil)) rfl heap_down_l0.hcv heap_down_l0.hex (fun _ => rfl) (heap_down_l0.run k) (exK := heap_down_l0.exK) (by intro X o k; rcases o with ⟨i0, i, b0_0⟩ <;> rfl) k X
def heap_down.ps : List SV := [.iface 54 (.el 0 1), .int .i64, .int .i64]
def heap_down.bs : List (SB × Md) := [(.vals 1 [.whole 1], .ro), (.recs [.i64, .i64, .i64, .i64], .rw)]
def heap_down.cv : List Lf → Option (Int × Int × List (List Int))
  | [.i i0, .i n, .lr h_0] => some (i0, n, h_0)
  | _ => none
def heap_down.un : (Int × Int × List (List Int)) → List Lf
  | (i0, n, h_0) => [.i i0, .i n, .lr h_0]
theorem heap_down.hcv : ∀ ls d, heap_down.cv ls = some d → ls = heap_down.un d := by
  intro ls d h; unfold heap_down.cv at h; split at h <;> first | (cases h; rfl) | cases h
def heap_down.r0 : Sk := { nt := 1, n0 := 2, slots := [(0, .bool)], blocks := [(.vals 1 [.whole 1], .ro), (.recs [.i64, .i64, .i64, .i64], .rw)] }
def heap_down.z0 : List Lf → Option (Bool × List (List Int))
  | [.b r, .lr b0_0] => some (r, b0_0)
  | _ => none
def heap_down.fins : List (Sk × (List Lf → Option (Bool × List (List Int)))) := [(heap_down.r0, heap_down.z0)]
def heap_down.fx : (Bool × List (List Int)) → Sk × List Lf
  | (r, b0_0) => (heap_down.r0, [.b r, .lr b0_0])
def heap_down.outK (X : Type) (o : (Bool × List (List Int))) (k : AV → Heap → Option X) : Option X :=
  match o with
  | (r, b0_0) => k (tget (fiS heap_down.r0 [.b r, .lr b0_0]).tmps 0) (fiS heap_down.r0 [.b r, .lr b0_0]).heap
theorem heap_down.hfx : FinOk 2 heap_down.fins heap_down.fx :=
  finOk_cons rfl rfl (by intro ls o h; unfold heap_down.z0 at h; split at h <;> first | (cases h; rfl) | cases h) (finOk_nil)
def heap_down.g (k : Nat) : (Int × Int × List (List Int)) → Option (Bool × List (List Int))
  | (i0, n, h_0) => heap_down k i0 n h_0
def heap_down.J (k : Nat) : FC := fun X => callF heap_down.ps heap_down.bs (fun ls => (heap_down.cv ls).bind (heap_down.g k)) (heap_down.outK X)
noncomputable def heap_down.ctx (k : Nat) (X : Type) : Ctx X := mkCtx Try.prog (heap_down.T k) [(0, heap_down_l0.J k)] [] X
theorem heap_down.fits (k : Nat) : fitsL (heap_down.ctx k (Bool × List (List Int))) (bodyOf Try.f48) = [(.block 0 (.loop (loopB 0 heap_down.code)), heap_down_l0.J k (Bool × List (List Int)))] := by kernel_rfl
theorem heap_down.run (k : Nat) (d : (Int × Int × List (List Int))) : evC (heap_down.ctx k (Bool × List (List Int))) (bodyOf Try.f48) (funcK Try.prog Try.f48.results.toList heap_down.fins) (fiA Try.f48.ntmps heap_down.ps heap_down.bs (heap_down.un d)) = heap_down.g k d := by
  obtain ⟨i0, n, h_0⟩ := d; kernel_rfl
theorem heap_down.ok (k : Nat) : CallOk Try.prog 48 (heap_down.J k) :=
  func_mk (P := Try.prog) (n0 := 2) (ps := heap_down.ps) (bs := heap_down.bs) (fins := heap_down.fins) (fx := heap_down.fx) (g := (heap_down.g k)) (cv := heap_down.cv) (un := heap_down.un) (c := heap_down.ctx k) (ctx_ok (heap_down.rows k) _ _) rfl hm0 Try.func48 (by kernel_rfl) (by kernel_rfl) rfl (fits_of (heap_down.fits k) (fits_cons (heap_down_l0.ok k _) (fits_nil))) (Nat.le_of_ble_eq_true (by kernel_rfl)) heap_down.hcv heap_down.hfx (heap_down.run k) (outK := heap_down.outK) (by intro X o k; rcases o with ⟨r, b0_0⟩ <;> rfl)

-- container/heap.Fix
def heap_Fix (k : Nat) (i : Int) (h_0 : List (List Int)) : Option (List (List Int)) :=
  (alloc_claims_Len h_0).bind fun (t7, b0) =>
  (heap_down k i t7 h_0).bind fun (t8, b0_0) =>
  br (!t8) (
    (heap_up k i b0_0).bind fun b0_0_1 =>
    some b0_0_1)
  (
    some b0_0)
noncomputable def heap_Fix.code : Code := bodyOf Try.f34
noncomputable def heap_Fix.T (k : Nat) : List Row := [⟨87, alloc_claims_Len.ps, alloc_claims_Len.bs, alloc_claims_Len.J⟩, ⟨48, heap_down.ps, heap_down.bs, heap_down.J k⟩, ⟨47, heap_up.ps, heap_up.bs, heap_up.J k⟩]
theorem heap_Fix.rows (k : Nat) : RowsOk Try.prog (heap_Fix.T k) := rows_cons (alloc_claims_Len.ok) (rows_cons (heap_down.ok k) (rows_cons (heap_up.ok k) (rows_nil _)))
def heap_Fix.ps : List SV := [.iface 54 (.el 0 1), .int .i64]
def heap_Fix.bs : List (SB × Md) := [(.vals 1 [.whole 1], .ro), (.recs [.i64, .i64, .i64, .i64], .rw)]
def heap_Fix.cv : List Lf → Option (Int × List (List Int))
  | [.i i, .lr h_0] => some (i, h_0)
  | _ => none
def heap_Fix.un : (Int × List (List Int)) → List Lf
  | (i, h_0) => [.i i, .lr h_0]
theorem heap_Fix.hcv : ∀ ls d, heap_Fix.cv ls = some d → ls = heap_Fix.un d := by
  intro ls d h; unfold heap_Fix.cv at h; split at h <;> first | (cases h; rfl) | cases h
def heap_Fix.r0 : Sk := { nt := 1, n0 := 2, slots := [(0, .tuple [])], blocks := [(.vals 1 [.whole 1], .ro), (.recs [.i64, .i64, .i64, .i64], .rw)] }
def heap_Fix.z0 : List Lf → Option (List (List Int))
  | [.lr b0_0] => some b0_0
  | _ => none
def heap_Fix.fins : List (Sk × (List Lf → Option (List (List Int)))) := [(heap_Fix.r0, heap_Fix.z0)]
def heap_Fix.fx : (List (List Int)) → Sk × List Lf
  | b0_0 => (heap_Fix.r0, [.lr b0_0])
def heap_Fix.outK (X : Type) (o : (List (List Int))) (k : AV → Heap → Option X) : Option X :=
  match o with
  | b0_0 => k (tget (fiS heap_Fix.r0 [.lr b0_0]).tmps 0) (fiS heap_Fix.r0 [.lr b0_0]).heap
theorem heap_Fix.hfx : FinOk 2 heap_Fix.fins heap_Fix.fx :=
  finOk_cons rfl rfl (by intro ls o h; unfold heap_Fix.z0 at h; split at h <;> first | (cases h; rfl) | cases h) (finOk_nil)
def heap_Fix.g (k : Nat) : (Int × List (List Int)) → Option (List (List Int))
  | (i, h_0) => heap_Fix k i h_0
def heap_Fix.J (k : Nat) : FC := fun X => callF heap_Fix.ps heap_Fix.bs (fun ls => (heap_Fix.cv ls).bind (heap_Fix.g k)) (heap_Fix.outK X)
noncomputable def heap_Fix.ctx (k : Nat) (X : Type) : Ctx X := mkCtx Try.prog (heap_Fix.T k) [] [] X
theorem heap_Fix.fits (k : Nat) : fitsL (heap_Fix.ctx k (List (List Int))) (bodyOf Try.f34) = [] := by kernel_rfl
theorem heap_Fix.run (k : Nat) (d : (Int × List (List Int))) : evC (heap_Fix.ctx k (List (List Int))) (bodyOf Try.f34) (funcK Try.prog Try.f34.results.toList heap_Fix.fins) (fiA Try.f34.ntmps heap_Fix.ps heap_Fix.bs (heap_Fix.un d)) = heap_Fix.g k d := by
  obtain ⟨i, h_0⟩ := d; kernel_rfl
theorem heap_Fix.ok (k : Nat) : CallOk Try.prog 34 (heap_Fix.J k) :=
  func_mk (P := Try.prog) (n0 := 2) (ps := heap_Fix.ps) (bs := heap_Fix.bs) (fins := heap_Fix.fins) (fx := heap_Fix.fx) (g := (heap_Fix.g k)) (cv := heap_Fix.cv) (un := heap_Fix.un) (c := heap_Fix.ctx k) (ctx_ok (heap_Fix.rows k) _ _) rfl hm0 Try.func34 (by kernel_rfl) (by kernel_rfl) rfl (fits_of (heap_Fix.fits k) (fits_nil)) (Nat.le_of_ble_eq_true (by kernel_rfl)) heap_Fix.hcv heap_Fix.hfx (heap_Fix.run k) (outK := heap_Fix.outK) (by intro X o k; rcases o with b0_0 <;> rfl)

-- madrigal/alloc.Share
def alloc_Share_l0 (k : Nat) : Nat → (Int × Int × Int × Int × List Int × List Int) → Option ((Int × Int × List Int × List Int) ⊕ (Int × List Int × List Int)) := itN fun rec d => match d with
  | (total, all, t38, t39, widths, loud) =>
    br (decide (t39 < t38)) (
      need (0 ≤ t39 ∧ t39 < (((widths.length) : Nat) : Int)) <|
      br (decide ((widths.getD (t39.toNat) 0) < 1)) (
        some (.inr (1, widths, loud)))
      (
        br (decide (1000 < (widths.getD (t39.toNat) 0))) (
          some (.inr (1, widths, loud)))
        (
          need (0 ≤ t39 ∧ t39 < (((loud.length) : Nat) : Int)) <|
          br (decide ((loud.getD (t39.toNat) 0) < 0)) (
            some (.inr (1, widths, loud)))
          (
            need (0 ≤ t39 ∧ t39 < (((loud.length) : Nat) : Int)) <|
            br (decide (1000 < (loud.getD (t39.toNat) 0))) (
              some (.inr (1, widths, loud)))
            (
              rec (total, IntKind.i64.wrap (all + (widths.getD (t39.toNat) 0)), t38, IntKind.i64.wrap (t39 + 1), widths, loud))))))
    (
      some (.inl (total, all, widths, loud)))
def alloc_Share_l2 (k : Nat) : Nat → (Int × Int × Int × Int × Int × List Int × List Int × List (List Int)) → Option (Int × List Int × List Int × List (List Int)) := itN fun rec d => match d with
  | (total, all, left, t70, t71, widths, loud, c_0) =>
    br (decide (t71 < t70)) (
      need (0 ≤ t71 ∧ t71 < (((widths.length) : Nat) : Int)) <|
      let t78 := IntKind.i64.wrap (total * (widths.getD (t71.toNat) 0))
      need (all ≠ 0) <|
      need (0 ≤ t71 ∧ t71 < (((loud.length) : Nat) : Int)) <|
      (heap_Push k t71 (widths.getD (t71.toNat) 0) (loud.getD (t71.toNat) 0) (IntKind.i64.wrap (t78.tdiv all)) c_0).bind fun b0_0 =>
      rec (total, all, IntKind.i64.wrap (left - (IntKind.i64.wrap (t78.tdiv all))), t70, IntKind.i64.wrap (t71 + 1), widths, loud, b0_0))
    (
      some (left, widths, loud, c_0))
def alloc_Share_l4 (k : Nat) : Nat → (Int × List Int × List Int × List (List Int)) → Option (List Int × List Int × List (List Int)) := itN fun rec d => match d with
  | (left, widths, b1, c_0) =>
    br (decide (0 < left)) (
      br (decide (0 < (((c_0.length) : Nat) : Int))) (
        need (0 ≤ (0 : Int) ∧ (0 : Int) < (((c_0.length) : Nat) : Int)) <|
        need (0 ≤ (0 : Int) ∧ (0 : Int) < (((c_0.length) : Nat) : Int)) <|
        (heap_Fix k 0 (c_0.set 0 ((c_0.getD 0 []).set 3 (IntKind.i64.wrap (((c_0.getD 0 []).getD 3 0) + 1))))).bind fun b0_0 =>
        rec (IntKind.i64.wrap (left - 1), widths, b1, b0_0))
      (
        some (widths, b1, c_0)))
    (
      some (widths, b1, c_0))
def alloc_Share_l6 (k : Nat) : Nat → (Int × Int × List Int × List Int × List Int × List (List Int)) → Option (List Int × List Int × List Int) := itN fun rec d => match d with
  | (t118, t119, b0, b1, out, t117) =>
    br (decide (t119 < t118)) (
      need (0 ≤ t119 ∧ t119 < (((t117.length) : Nat) : Int)) <|
      let t125 := (t117.getD (t119.toNat) []).getD 0 0
      need (0 ≤ t125 ∧ t125 < (((out.length) : Nat) : Int)) <|
      rec (t118, IntKind.i64.wrap (t119 + 1), b0, b1, out.set (t125.toNat) ((t117.getD (t119.toNat) []).getD 3 0), t117))
    (
      some (b0, b1, out))
def alloc_Share (k : Nat) (total : Int) (widths : List Int) (loud : List Int) : Option (Int × List Int × List Int × List Int) :=
  br (decide (total < 0)) (
    some (1, widths, loud, []))
  (
    br (decide (1048576 < total)) (
      some (1, widths, loud, []))
    (
      br (decide (40 < (((widths.length) : Nat) : Int))) (
        some (1, widths, loud, []))
      (
        br (!decide ((((loud.length) : Nat) : Int) = (((widths.length) : Nat) : Int))) (
          some (1, widths, loud, []))
        (
          (alloc_Share_l0 k k (total, 0, (((widths.length) : Nat) : Int), 0, widths, loud)).bind fun o => match o with
          | .inl (total1, all, widths1, loud1) =>
            (alloc_Share_l2 k k (total1, all, total1, (((widths1.length) : Nat) : Int), 0, widths1, loud1, [])).bind fun (left, widths2, b1, c_0) =>
            (alloc_Share_l4 k k (left, widths2, b1, c_0)).bind fun (widths3, b1_1, c_0_1) =>
            need (0 ≤ (((widths3.length) : Nat) : Int) ∧ (((widths3.length) : Nat) : Int) = (((widths3.length) : Nat) : Int) ∧ (8 : Int) * (((widths3.length) : Nat) : Int) ≤ 281474976710656 ∧ (((widths3.length) : Nat) : Int) ≤ 9223372036854775807) <|
            (alloc_Share_l6 k k ((((c_0_1.length) : Nat) : Int), 0, widths3, b1_1, List.replicate ((((widths3.length) : Nat) : Int).toNat) 0, c_0_1)).bind fun (b0, b1_2, out) =>
            some (0, b0, b1_2, out)
          | .inr (t7, b0_1, b1_3) =>
            some (t7, b0_1, b1_3, [])))))
noncomputable def alloc_Share.code : Code := bodyOf Try.f15
noncomputable def alloc_Share.T (k : Nat) : List Row := [⟨33, heap_Push.ps, heap_Push.bs, heap_Push.J k⟩, ⟨34, heap_Fix.ps, heap_Fix.bs, heap_Fix.J k⟩]
theorem alloc_Share.rows (k : Nat) : RowsOk Try.prog (alloc_Share.T k) := rows_cons (heap_Push.ok k) (rows_cons (heap_Fix.ok k) (rows_nil _))
def alloc_Share_l0.sk : Sk := { nt := 131, n0 := 2, slots := [(0, .int .i64), (1, .whole 0), (2, .whole 1), (8, .int .i64), (37, .whole 0), (38, .int .i64), (39, .int .i64)], blocks := [(.ints .i64, .ro), (.ints .i64, .ro)] }
def alloc_Share_l0.cv : List Lf → Option (Int × Int × Int × Int × List Int × List Int)
  | [.i total, .i all, .i t38, .i t39, .li widths, .li loud] => some (total, all, t38, t39, widths, loud)
  | _ => none
def alloc_Share_l0.un : (Int × Int × Int × Int × List Int × List Int) → List Lf
  | (total, all, t38, t39, widths, loud) => [.i total, .i all, .i t38, .i t39, .li widths, .li loud]
theorem alloc_Share_l0.hcv : ∀ ls d, alloc_Share_l0.cv ls = some d → ls = alloc_Share_l0.un d := by
  intro ls d h; unfold alloc_Share_l0.cv at h; split at h <;> first | (cases h; rfl) | cases h
def alloc_Share_l0.x0 : Sk := { nt := 131, n0 := 2, slots := [(0, .int .i64), (1, .whole 0), (2, .whole 1), (8, .int .i64)], blocks := [(.ints .i64, .ro), (.ints .i64, .ro)] }
def alloc_Share_l0.y0 : List Lf → Option ((Int × Int × List Int × List Int) ⊕ (Int × List Int × List Int))
  | [.i total, .i all, .li widths, .li loud] => some (.inl (total, all, widths, loud))
  | _ => none
def alloc_Share_l0.x1 : Sk := { nt := 131, n0 := 2, slots := [(6, .nilSlice), (7, .int .i64)], blocks := [(.ints .i64, .ro), (.ints .i64, .ro)] }
def alloc_Share_l0.y1 : List Lf → Option ((Int × Int × List Int × List Int) ⊕ (Int × List Int × List Int))
  | [.i t7, .li b0, .li b1] => some (.inr (t7, b0, b1))
  | _ => none
def alloc_Share_l0.exits : List (Nat × Sk × (List Lf → Option ((Int × Int × List Int × List Int) ⊕ (Int × List Int × List Int)))) := [(2, alloc_Share_l0.x0, alloc_Share_l0.y0), (1, alloc_Share_l0.x1, alloc_Share_l0.y1)]
def alloc_Share_l0.ex : ((Int × Int × List Int × List Int) ⊕ (Int × List Int × List Int)) → Nat × Sk × List Lf
  | .inl (total, all, widths, loud) => (2, alloc_Share_l0.x0, [.i total, .i all, .li widths, .li loud])
  | .inr (t7, b0, b1) => (1, alloc_Share_l0.x1, [.i t7, .li b0, .li b1])
def alloc_Share_l0.exK (X : Type) (o : ((Int × Int × List Int × List Int) ⊕ (Int × List Int × List Int))) (k : Exit → St → Option X) : Option X :=
  match o with
  | .inl (total, all, widths, loud) => k .normal (fiS alloc_Share_l0.x0 [.i total, .i all, .li widths, .li loud])
  | .inr (t7, b0, b1) => k .ret (fiS alloc_Share_l0.x1 [.i t7, .li b0, .li b1])
theorem alloc_Share_l0.hex : ExOk 2 alloc_Share_l0.exits alloc_Share_l0.ex :=
  exOk_cons rfl (by intro ls o h; unfold alloc_Share_l0.y0 at h; split at h <;> first | (cases h; rfl) | cases h) (exOk_cons rfl (by intro ls o h; unfold alloc_Share_l0.y1 at h; split at h <;> first | (cases h; rfl) | cases h) (exOk_nil))
noncomputable def alloc_Share_l0.ctx (k : Nat) (X : Type) : Ctx X := mkCtx Try.prog (alloc_Share.T k) [] [] X
theorem alloc_Share_l0.fits (k : Nat) : fitsL (alloc_Share_l0.ctx k ((Int × Int × List Int × List Int) ⊕ (Int × List Int × List Int))) (loopB 0 alloc_Share.code) = [] := by kernel_rfl
def alloc_Share_l0.J (k : Nat) (X : Type) : Contract X := fun c s => (pt alloc_Share_l0.sk alloc_Share_l0.cv s).bind fun d => (alloc_Share_l0 k k d).bind fun o => alloc_Share_l0.exK X o c
theorem alloc_Share_l0.run (k : Nat) (n : Nat) (d : (Int × Int × Int × Int × List Int × List Int)) : evC (alloc_Share_l0.ctx k ((Int × Int × List Int × List Int) ⊕ (Int × List Int × List Int))) (loopB 0 alloc_Share.code) (backK (fun s => (pt alloc_Share_l0.sk alloc_Share_l0.cv s).bind (alloc_Share_l0 k n)) alloc_Share_l0.exits) (fiS alloc_Share_l0.sk (alloc_Share_l0.un d)) = alloc_Share_l0 k (n + 1) d := by
  obtain ⟨total, all, t38, t39, widths, loud⟩ := d; kernel_rfl
theorem alloc_Share_l0.ok (k : Nat) (X : Type) : CodeOk Try.prog 2 (.block 0 (.loop (loopB 0 alloc_Share.code))) (alloc_Share_l0.J k X) :=
  loop_mk (c := alloc_Share_l0.ctx k) (ctx_ok (alloc_Share.rows k) _ _) rfl hm0 (fits_of (alloc_Share_l0.fits k) (fits_nil)) rfl alloc_Share_l0.hcv alloc_Share_l0.hex (fun _ => rfl) (alloc_Share_l0.run k) (exK := alloc_Share_l0.exK) (by intro X o k; rcases o with ⟨total, all, widths, loud⟩ | ⟨t7, b0, b1⟩ <;> rfl) k X
def alloc_Share_l2.sk : Sk := { nt := 131, n0 := 2, slots := [(0, .int .i64), (1, .whole 0), (2, .whole 1), (8, .int .i64), (11, .ptr0 2 0), (12, .int .i64), (69, .whole 0), (70, .int .i64), (71, .int .i64)], blocks := [(.ints .i64, .ro), (.ints .i64, .ro), (.vals 1 [.whole 3], .own), (.recs [.i64, .i64, .i64, .i64], .own)] }
def alloc_Share_l2.cv : List Lf → Option (Int × Int × Int × Int × Int × List Int × List Int × List (List Int))
  | [.i total, .i all, .i left, .i t70, .i t71, .li widths, .li loud, .lr c_0] => some (total, all, left, t70, t71, widths, loud, c_0)
  | _ => none
def alloc_Share_l2.un : (Int × Int × Int × Int × Int × List Int × List Int × List (List Int)) → List Lf
  | (total, all, left, t70, t71, widths, loud, c_0) => [.i total, .i all, .i left, .i t70, .i t71, .li widths, .li loud, .lr c_0]
theorem alloc_Share_l2.hcv : ∀ ls d, alloc_Share_l2.cv ls = some d → ls = alloc_Share_l2.un d := by
  intro ls d h; unfold alloc_Share_l2.cv at h; split at h <;> first | (cases h; rfl) | cases h
def alloc_Share_l2.x0 : Sk := { nt := 131, n0 := 2, slots := [(1, .whole 0), (11, .ptr0 2 0), (12, .int .i64)], blocks := [(.ints .i64, .ro), (.ints .i64, .ro), (.vals 1 [.whole 3], .own), (.recs [.i64, .i64, .i64, .i64], .own)] }
def alloc_Share_l2.y0 : List Lf → Option (Int × List Int × List Int × List (List Int))
  | [.i left, .li widths, .li b1, .lr c_0] => some (left, widths, b1, c_0)
  | _ => none
def alloc_Share_l2.exits : List (Nat × Sk × (List Lf → Option (Int × List Int × List Int × List (List Int)))) := [(4, alloc_Share_l2.x0, alloc_Share_l2.y0)]
def alloc_Share_l2.ex : (Int × List Int × List Int × List (List Int)) → Nat × Sk × List Lf
  | (left, widths, b1, c_0) => (4, alloc_Share_l2.x0, [.i left, .li widths, .li b1, .lr c_0])
def alloc_Share_l2.exK (X : Type) (o : (Int × List Int × List Int × List (List Int))) (k : Exit → St → Option X) : Option X :=
  match o with
  | (left, widths, b1, c_0) => k .normal (fiS alloc_Share_l2.x0 [.i left, .li widths, .li b1, .lr c_0])
theorem alloc_Share_l2.hex : ExOk 2 alloc_Share_l2.exits alloc_Share_l2.ex :=
  exOk_cons rfl (by intro ls o h; unfold alloc_Share_l2.y0 at h; split at h <;> first | (cases h; rfl) | cases h) (exOk_nil)
noncomputable def alloc_Share_l2.ctx (k : Nat) (X : Type) : Ctx X := mkCtx Try.prog (alloc_Share.T k) [(0, alloc_Share_l0.J k)] [] X
theorem alloc_Share_l2.fits (k : Nat) : fitsL (alloc_Share_l2.ctx k (Int × List Int × List Int × List (List Int))) (loopB 2 alloc_Share.code) = [] := by kernel_rfl
def alloc_Share_l2.J (k : Nat) (X : Type) : Contract X := fun c s => (pt alloc_Share_l2.sk alloc_Share_l2.cv s).bind fun d => (alloc_Share_l2 k k d).bind fun o => alloc_Share_l2.exK X o c
theorem alloc_Share_l2.run (k : Nat) (n : Nat) (d : (Int × Int × Int × Int × Int × List Int × List Int × List (List Int))) : evC (alloc_Share_l2.ctx k (Int × List Int × List Int × List (List Int))) (loopB 2 alloc_Share.code) (backK (fun s => (pt alloc_Share_l2.sk alloc_Share_l2.cv s).bind (alloc_Share_l2 k n)) alloc_Share_l2.exits) (fiS alloc_Share_l2.sk (alloc_Share_l2.un d)) = alloc_Share_l2 k (n + 1) d := by
  obtain ⟨total, all, left, t70, t71, widths, loud, c_0⟩ := d; kernel_rfl
theorem alloc_Share_l2.ok (k : Nat) (X : Type) : CodeOk Try.prog 2 (.block 2 (.loop (loopB 2 alloc_Share.code))) (alloc_Share_l2.J k X) :=
  loop_mk (c := alloc_Share_l2.ctx k) (ctx_ok (alloc_Share.rows k) _ _) rfl hm0 (fits_of (alloc_Share_l2.fits k) (fits_nil)) rfl alloc_Share_l2.hcv alloc_Share_l2.hex (fun _ => rfl) (alloc_Share_l2.run k) (exK := alloc_Share_l2.exK) (by intro X o k; rcases o with ⟨left, widths, b1, c_0⟩ <;> rfl) k X
def alloc_Share_l4.sk : Sk := { nt := 131, n0 := 2, slots := [(1, .whole 0), (11, .ptr0 2 0), (12, .int .i64)], blocks := [(.ints .i64, .ro), (.ints .i64, .ro), (.vals 1 [.whole 3], .own), (.recs [.i64, .i64, .i64, .i64], .own)] }
def alloc_Share_l4.cv : List Lf → Option (Int × List Int × List Int × List (List Int))
  | [.i left, .li widths, .li b1, .lr c_0] => some (left, widths, b1, c_0)
  | _ => none
def alloc_Share_l4.un : (Int × List Int × List Int × List (List Int)) → List Lf
  | (left, widths, b1, c_0) => [.i left, .li widths, .li b1, .lr c_0]
theorem alloc_Share_l4.hcv : ∀ ls d, alloc_Share_l4.cv ls = some d → ls = alloc_Share_l4.un d := by
  intro ls d h; unfold alloc_Share_l4.cv at h; split at h <;> first | (cases h; rfl) | cases h
def alloc_Share_l4.x0 : Sk := { nt := 131, n0 := 2, slots := [(1, .whole 0), (11, .ptr0 2 0)], blocks := [(.ints .i64, .ro), (.ints .i64, .ro), (.vals 1 [.whole 3], .own), (.recs [.i64, .i64, .i64, .i64], .own)] }
def alloc_Share_l4.y0 : List Lf → Option (List Int × List Int × List (List Int))
  | [.li widths, .li b1, .lr c_0] => some (widths, b1, c_0)
  | _ => none
def alloc_Share_l4.exits : List (Nat × Sk × (List Lf → Option (List Int × List Int × List (List Int)))) := [(6, alloc_Share_l4.x0, alloc_Share_l4.y0)]
def alloc_Share_l4.ex : (List Int × List Int × List (List Int)) → Nat × Sk × List Lf
  | (widths, b1, c_0) => (6, alloc_Share_l4.x0, [.li widths, .li b1, .lr c_0])
def alloc_Share_l4.exK (X : Type) (o : (List Int × List Int × List (List Int))) (k : Exit → St → Option X) : Option X :=
  match o with
  | (widths, b1, c_0) => k .normal (fiS alloc_Share_l4.x0 [.li widths, .li b1, .lr c_0])
theorem alloc_Share_l4.hex : ExOk 2 alloc_Share_l4.exits alloc_Share_l4.ex :=
  exOk_cons rfl (by intro ls o h; unfold alloc_Share_l4.y0 at h; split at h <;> first | (cases h; rfl) | cases h) (exOk_nil)
noncomputable def alloc_Share_l4.ctx (k : Nat) (X : Type) : Ctx X := mkCtx Try.prog (alloc_Share.T k) [(2, alloc_Share_l2.J k), (0, alloc_Share_l0.J k)] [] X
theorem alloc_Share_l4.fits (k : Nat) : fitsL (alloc_Share_l4.ctx k (List Int × List Int × List (List Int))) (loopB 4 alloc_Share.code) = [] := by kernel_rfl
def alloc_Share_l4.J (k : Nat) (X : Type) : Contract X := fun c s => (pt alloc_Share_l4.sk alloc_Share_l4.cv s).bind fun d => (alloc_Share_l4 k k d).bind fun o => alloc_Share_l4.exK X o c
theorem alloc_Share_l4.run (k : Nat) (n : Nat) (d : (Int × List Int × List Int × List (List Int))) : evC (alloc_Share_l4.ctx k (List Int × List Int × List (List Int))) (loopB 4 alloc_Share.code) (backK (fun s => (pt alloc_Share_l4.sk alloc_Share_l4.cv s).bind (alloc_Share_l4 k n)) alloc_Share_l4.exits) (fiS alloc_Share_l4.sk (alloc_Share_l4.un d)) = alloc_Share_l4 k (n + 1) d := by
  obtain ⟨left, widths, b1, c_0⟩ := d; kernel_rfl
theorem alloc_Share_l4.ok (k : Nat) (X : Type) : CodeOk Try.prog 2 (.block 4 (.loop (loopB 4 alloc_Share.code))) (alloc_Share_l4.J k X) :=
  loop_mk (c := alloc_Share_l4.ctx k) (ctx_ok (alloc_Share.rows k) _ _) rfl hm0 (fits_of (alloc_Share_l4.fits k) (fits_nil)) rfl alloc_Share_l4.hcv alloc_Share_l4.hex (fun _ => rfl) (alloc_Share_l4.run k) (exK := alloc_Share_l4.exK) (by intro X o k; rcases o with ⟨widths, b1, c_0⟩ <;> rfl) k X
def alloc_Share_l6.sk : Sk := { nt := 131, n0 := 2, slots := [(16, .whole 2), (117, .whole 3), (118, .int .i64), (119, .int .i64)], blocks := [(.ints .i64, .ro), (.ints .i64, .ro), (.ints .i64, .own), (.recs [.i64, .i64, .i64, .i64], .own)] }
def alloc_Share_l6.cv : List Lf → Option (Int × Int × List Int × List Int × List Int × List (List Int))
  | [.i t118, .i t119, .li b0, .li b1, .li out, .lr t117] => some (t118, t119, b0, b1, out, t117)
  | _ => none
def alloc_Share_l6.un : (Int × Int × List Int × List Int × List Int × List (List Int)) → List Lf
  | (t118, t119, b0, b1, out, t117) => [.i t118, .i t119, .li b0, .li b1, .li out, .lr t117]
theorem alloc_Share_l6.hcv : ∀ ls d, alloc_Share_l6.cv ls = some d → ls = alloc_Share_l6.un d := by
  intro ls d h; unfold alloc_Share_l6.cv at h; split at h <;> first | (cases h; rfl) | cases h
def alloc_Share_l6.x0 : Sk := { nt := 131, n0 := 2, slots := [(16, .whole 2)], blocks := [(.ints .i64, .ro), (.ints .i64, .ro), (.ints .i64, .own)] }
def alloc_Share_l6.y0 : List Lf → Option (List Int × List Int × List Int)
  | [.li b0, .li b1, .li out] => some (b0, b1, out)
  | _ => none
def alloc_Share_l6.exits : List (Nat × Sk × (List Lf → Option (List Int × List Int × List Int))) := [(8, alloc_Share_l6.x0, alloc_Share_l6.y0)]
def alloc_Share_l6.ex : (List Int × List Int × List Int) → Nat × Sk × List Lf
  | (b0, b1, out) => (8, alloc_Share_l6.x0, [.li b0, .li b1, .li out])
def alloc_Share_l6.exK (X : Type) (o : (List Int × List Int × List Int)) (k : Exit → St → Option X) : Option X :=
  match o with
  | (b0, b1, out) => k .normal (fiS alloc_Share_l6.x0 [.li b0, .li b1, .li out])
theorem alloc_Share_l6.hex : ExOk 2 alloc_Share_l6.exits alloc_Share_l6.ex :=
  exOk_cons rfl (by intro ls o h; unfold alloc_Share_l6.y0 at h; split at h <;> first | (cases h; rfl) | cases h) (exOk_nil)
noncomputable def alloc_Share_l6.ctx (k : Nat) (X : Type) : Ctx X := mkCtx Try.prog (alloc_Share.T k) [(4, alloc_Share_l4.J k), (2, alloc_Share_l2.J k), (0, alloc_Share_l0.J k)] [] X
theorem alloc_Share_l6.fits (k : Nat) : fitsL (alloc_Share_l6.ctx k (List Int × List Int × List Int)) (loopB 6 alloc_Share.code) = [] := by kernel_rfl
def alloc_Share_l6.J (k : Nat) (X : Type) : Contract X := fun c s => (pt alloc_Share_l6.sk alloc_Share_l6.cv s).bind fun d => (alloc_Share_l6 k k d).bind fun o => alloc_Share_l6.exK X o c
theorem alloc_Share_l6.run (k : Nat) (n : Nat) (d : (Int × Int × List Int × List Int × List Int × List (List Int))) : evC (alloc_Share_l6.ctx k (List Int × List Int × List Int)) (loopB 6 alloc_Share.code) (backK (fun s => (pt alloc_Share_l6.sk alloc_Share_l6.cv s).bind (alloc_Share_l6 k n)) alloc_Share_l6.exits) (fiS alloc_Share_l6.sk (alloc_Share_l6.un d)) = alloc_Share_l6 k (n + 1) d := by
  obtain ⟨t118, t119, b0, b1, out, t117⟩ := d; kernel_rfl
theorem alloc_Share_l6.ok (k : Nat) (X : Type) : CodeOk Try.prog 2 (.block 6 (.loop (loopB 6 alloc_Share.code))) (alloc_Share_l6.J k X) :=
  loop_mk (c := alloc_Share_l6.ctx k) (ctx_ok (alloc_Share.rows k) _ _) rfl hm0 (fits_of (alloc_Share_l6.fits k) (fits_nil)) rfl alloc_Share_l6.hcv alloc_Share_l6.hex (fun _ => rfl) (alloc_Share_l6.run k) (exK := alloc_Share_l6.exK) (by intro X o k; rcases o with ⟨b0, b1, out⟩ <;> rfl) k X
def alloc_Share.ps : List SV := [.int .i64, .whole 0, .whole 1]
def alloc_Share.bs : List (SB × Md) := [(.ints .i64, .ro), (.ints .i64, .ro)]
def alloc_Share.cv : List Lf → Option (Int × List Int × List Int)
  | [.i total, .li widths, .li loud] => some (total, widths, loud)
  | _ => none
def alloc_Share.un : (Int × List Int × List Int) → List Lf
  | (total, widths, loud) => [.i total, .li widths, .li loud]
theorem alloc_Share.hcv : ∀ ls d, alloc_Share.cv ls = some d → ls = alloc_Share.un d := by
  intro ls d h; unfold alloc_Share.cv at h; split at h <;> first | (cases h; rfl) | cases h
def alloc_Share.r0 : Sk := { nt := 1, n0 := 2, slots := [(0, .tuple [.whole 2, .int .i64])], blocks := [(.ints .i64, .ro), (.ints .i64, .ro), (.ints .i64, .own)] }
def alloc_Share.z0 : List Lf → Option (Int × List Int × List Int × List Int)
  | [.i r_1, .li b0, .li b1, .li r_0] => some (r_1, b0, b1, r_0)
  | _ => none
def alloc_Share.fins : List (Sk × (List Lf → Option (Int × List Int × List Int × List Int))) := [(alloc_Share.r0, alloc_Share.z0)]
def alloc_Share.fx : (Int × List Int × List Int × List Int) → Sk × List Lf
  | (r_1, b0, b1, r_0) => (alloc_Share.r0, [.i r_1, .li b0, .li b1, .li r_0])
def alloc_Share.outK (X : Type) (o : (Int × List Int × List Int × List Int)) (k : AV → Heap → Option X) : Option X :=
  match o with
  | (r_1, b0, b1, r_0) => k (tget (fiS alloc_Share.r0 [.i r_1, .li b0, .li b1, .li r_0]).tmps 0) (fiS alloc_Share.r0 [.i r_1, .li b0, .li b1, .li r_0]).heap
theorem alloc_Share.hfx : FinOk 2 alloc_Share.fins alloc_Share.fx :=
  finOk_cons rfl rfl (by intro ls o h; unfold alloc_Share.z0 at h; split at h <;> first | (cases h; rfl) | cases h) (finOk_nil)
def alloc_Share.g (k : Nat) : (Int × List Int × List Int) → Option (Int × List Int × List Int × List Int)
  | (total, widths, loud) => alloc_Share k total widths loud
def alloc_Share.J (k : Nat) : FC := fun X => callF alloc_Share.ps alloc_Share.bs (fun ls => (alloc_Share.cv ls).bind (alloc_Share.g k)) (alloc_Share.outK X)
noncomputable def alloc_Share.ctx (k : Nat) (X : Type) : Ctx X := mkCtx Try.prog (alloc_Share.T k) [(6, alloc_Share_l6.J k), (4, alloc_Share_l4.J k), (2, alloc_Share_l2.J k), (0, alloc_Share_l0.J k)] [] X
theorem alloc_Share.fits (k : Nat) : fitsL (alloc_Share.ctx k (Int × List Int × List Int × List Int)) (bodyOf Try.f15) = [(.block 0 (.loop (loopB 0 alloc_Share.code)), alloc_Share_l0.J k (Int × List Int × List Int × List Int)), (.block 2 (.loop (loopB 2 alloc_Share.code)), alloc_Share_l2.J k (Int × List Int × List Int × List Int)), (.block 4 (.loop (loopB 4 alloc_Share.code)), alloc_Share_l4.J k (Int × List Int × List Int × List Int)), (.block 6 (.loop (loopB 6 alloc_Share.code)), alloc_Share_l6.J k (Int × List Int × List Int × List Int))] := by kernel_rfl
theorem alloc_Share.run (k : Nat) (d : (Int × List Int × List Int)) : evC (alloc_Share.ctx k (Int × List Int × List Int × List Int)) (bodyOf Try.f15) (funcK Try.prog Try.f15.results.toList alloc_Share.fins) (fiA Try.f15.ntmps alloc_Share.ps alloc_Share.bs (alloc_Share.un d)) = alloc_Share.g k d := by
  obtain ⟨total, widths, loud⟩ := d; kernel_rfl
theorem alloc_Share.ok (k : Nat) : CallOk Try.prog 15 (alloc_Share.J k) :=
  func_mk (P := Try.prog) (n0 := 2) (ps := alloc_Share.ps) (bs := alloc_Share.bs) (fins := alloc_Share.fins) (fx := alloc_Share.fx) (g := (alloc_Share.g k)) (cv := alloc_Share.cv) (un := alloc_Share.un) (c := alloc_Share.ctx k) (ctx_ok (alloc_Share.rows k) _ _) rfl hm0 Try.func15 (by kernel_rfl) (by kernel_rfl) rfl (fits_of (alloc_Share.fits k) (fits_cons (alloc_Share_l0.ok k _) (fits_cons (alloc_Share_l2.ok k _) (fits_cons (alloc_Share_l4.ok k _) (fits_cons (alloc_Share_l6.ok k _) (fits_nil)))))) (Nat.le_of_ble_eq_true (by kernel_rfl)) alloc_Share.hcv alloc_Share.hfx (alloc_Share.run k) (outK := alloc_Share.outK) (by intro X o k; rcases o with ⟨r_1, b0, b1, r_0⟩ <;> rfl)

-- madrigal/madrigallaw18.ints
def madrigallaw18_ints_l0 (k : Nat) : Nat → (Int × List Int × List Int) → Option ((List Int × List Int) ⊕ (Bool × List Int × List Int)) := itN fun rec d => match d with
  | (i, a, b) =>
    br (decide (i < (((a.length) : Nat) : Int))) (
      need (0 ≤ i ∧ i < (((a.length) : Nat) : Int)) <|
      need (0 ≤ i ∧ i < (((b.length) : Nat) : Int)) <|
      br (!decide ((a.getD (i.toNat) 0) = (b.getD (i.toNat) 0))) (
        some (.inr (false, a, b)))
      (
        rec (IntKind.i64.wrap (i + 1), a, b)))
    (
      some (.inl (a, b)))
def madrigallaw18_ints (k : Nat) (a : List Int) (b : List Int) : Option (Bool × List Int × List Int) :=
  br (!decide ((((a.length) : Nat) : Int) = (((b.length) : Nat) : Int))) (
    some (false, a, b))
  (
    (madrigallaw18_ints_l0 k k (0, a, b)).bind fun o => match o with
    | .inl (b0, b1) =>
      some (true, b0, b1)
    | .inr (t4, b0_1, b1_1) =>
      some (t4, b0_1, b1_1))
noncomputable def madrigallaw18_ints.code : Code := bodyOf Try.f20
noncomputable def madrigallaw18_ints.T (k : Nat) : List Row := []
theorem madrigallaw18_ints.rows (k : Nat) : RowsOk Try.prog (madrigallaw18_ints.T k) := rows_nil _
def madrigallaw18_ints_l0.sk : Sk := { nt := 26, n0 := 2, slots := [(0, .whole 0), (1, .whole 1), (5, .int .i64)], blocks := [(.ints .i64, .ro), (.ints .i64, .ro)] }
def madrigallaw18_ints_l0.cv : List Lf → Option (Int × List Int × List Int)
  | [.i i, .li a, .li b] => some (i, a, b)
  | _ => none
def madrigallaw18_ints_l0.un : (Int × List Int × List Int) → List Lf
  | (i, a, b) => [.i i, .li a, .li b]
theorem madrigallaw18_ints_l0.hcv : ∀ ls d, madrigallaw18_ints_l0.cv ls = some d → ls = madrigallaw18_ints_l0.un d := by
  intro ls d h; unfold madrigallaw18_ints_l0.cv at h; split at h <;> first | (cases h; rfl) | cases h
def madrigallaw18_ints_l0.x0 : Sk := { nt := 26, n0 := 2, slots := [], blocks := [(.ints .i64, .ro), (.ints .i64, .ro)] }
def madrigallaw18_ints_l0.y0 : List Lf → Option ((List Int × List Int) ⊕ (Bool × List Int × List Int))
  | [.li b0, .li b1] => some (.inl (b0, b1))
  | _ => none
def madrigallaw18_ints_l0.x1 : Sk := { nt := 26, n0 := 2, slots := [(4, .bool)], blocks := [(.ints .i64, .ro), (.ints .i64, .ro)] }
def madrigallaw18_ints_l0.y1 : List Lf → Option ((List Int × List Int) ⊕ (Bool × List Int × List Int))
  | [.b t4, .li b0, .li b1] => some (.inr (t4, b0, b1))
  | _ => none
def madrigallaw18_ints_l0.exits : List (Nat × Sk × (List Lf → Option ((List Int × List Int) ⊕ (Bool × List Int × List Int)))) := [(2, madrigallaw18_ints_l0.x0, madrigallaw18_ints_l0.y0), (1, madrigallaw18_ints_l0.x1, madrigallaw18_ints_l0.y1)]
def madrigallaw18_ints_l0.ex : ((List Int × List Int) ⊕ (Bool × List Int × List Int)) → Nat × Sk × List Lf
  | .inl (b0, b1) => (2, madrigallaw18_ints_l0.x0, [.li b0, .li b1])
  | .inr (t4, b0, b1) => (1, madrigallaw18_ints_l0.x1, [.b t4, .li b0, .li b1])
def madrigallaw18_ints_l0.exK (X : Type) (o : ((List Int × List Int) ⊕ (Bool × List Int × List Int))) (k : Exit → St → Option X) : Option X :=
  match o with
  | .inl (b0, b1) => k .normal (fiS madrigallaw18_ints_l0.x0 [.li b0, .li b1])
  | .inr (t4, b0, b1) => k .ret (fiS madrigallaw18_ints_l0.x1 [.b t4, .li b0, .li b1])
theorem madrigallaw18_ints_l0.hex : ExOk 2 madrigallaw18_ints_l0.exits madrigallaw18_ints_l0.ex :=
  exOk_cons rfl (by intro ls o h; unfold madrigallaw18_ints_l0.y0 at h; split at h <;> first | (cases h; rfl) | cases h) (exOk_cons rfl (by intro ls o h; unfold madrigallaw18_ints_l0.y1 at h; split at h <;> first | (cases h; rfl) | cases h) (exOk_nil))
noncomputable def madrigallaw18_ints_l0.ctx (k : Nat) (X : Type) : Ctx X := mkCtx Try.prog (madrigallaw18_ints.T k) [] [] X
theorem madrigallaw18_ints_l0.fits (k : Nat) : fitsL (madrigallaw18_ints_l0.ctx k ((List Int × List Int) ⊕ (Bool × List Int × List Int))) (loopB 0 madrigallaw18_ints.code) = [] := by kernel_rfl
def madrigallaw18_ints_l0.J (k : Nat) (X : Type) : Contract X := fun c s => (pt madrigallaw18_ints_l0.sk madrigallaw18_ints_l0.cv s).bind fun d => (madrigallaw18_ints_l0 k k d).bind fun o => madrigallaw18_ints_l0.exK X o c
theorem madrigallaw18_ints_l0.run (k : Nat) (n : Nat) (d : (Int × List Int × List Int)) : evC (madrigallaw18_ints_l0.ctx k ((List Int × List Int) ⊕ (Bool × List Int × List Int))) (loopB 0 madrigallaw18_ints.code) (backK (fun s => (pt madrigallaw18_ints_l0.sk madrigallaw18_ints_l0.cv s).bind (madrigallaw18_ints_l0 k n)) madrigallaw18_ints_l0.exits) (fiS madrigallaw18_ints_l0.sk (madrigallaw18_ints_l0.un d)) = madrigallaw18_ints_l0 k (n + 1) d := by
  obtain ⟨i, a, b⟩ := d; kernel_rfl
theorem madrigallaw18_ints_l0.ok (k : Nat) (X : Type) : CodeOk Try.prog 2 (.block 0 (.loop (loopB 0 madrigallaw18_ints.code))) (madrigallaw18_ints_l0.J k X) :=
  loop_mk (c := madrigallaw18_ints_l0.ctx k) (ctx_ok (madrigallaw18_ints.rows k) _ _) rfl hm0 (fits_of (madrigallaw18_ints_l0.fits k) (fits_nil)) rfl madrigallaw18_ints_l0.hcv madrigallaw18_ints_l0.hex (fun _ => rfl) (madrigallaw18_ints_l0.run k) (exK := madrigallaw18_ints_l0.exK) (by intro X o k; rcases o with ⟨b0, b1⟩ | ⟨t4, b0, b1⟩ <;> rfl) k X
def madrigallaw18_ints.ps : List SV := [.whole 0, .whole 1]
def madrigallaw18_ints.bs : List (SB × Md) := [(.ints .i64, .ro), (.ints .i64, .ro)]
def madrigallaw18_ints.cv : List Lf → Option (List Int × List Int)
  | [.li a, .li b] => some (a, b)
  | _ => none
def madrigallaw18_ints.un : (List Int × List Int) → List Lf
  | (a, b) => [.li a, .li b]
theorem madrigallaw18_ints.hcv : ∀ ls d, madrigallaw18_ints.cv ls = some d → ls = madrigallaw18_ints.un d := by
  intro ls d h; unfold madrigallaw18_ints.cv at h; split at h <;> first | (cases h; rfl) | cases h
def madrigallaw18_ints.r0 : Sk := { nt := 1, n0 := 2, slots := [(0, .bool)], blocks := [(.ints .i64, .ro), (.ints .i64, .ro)] }
def madrigallaw18_ints.z0 : List Lf → Option (Bool × List Int × List Int)
  | [.b r, .li b0, .li b1] => some (r, b0, b1)
  | _ => none
def madrigallaw18_ints.fins : List (Sk × (List Lf → Option (Bool × List Int × List Int))) := [(madrigallaw18_ints.r0, madrigallaw18_ints.z0)]
def madrigallaw18_ints.fx : (Bool × List Int × List Int) → Sk × List Lf
  | (r, b0, b1) => (madrigallaw18_ints.r0, [.b r, .li b0, .li b1])
def madrigallaw18_ints.outK (X : Type) (o : (Bool × List Int × List Int)) (k : AV → Heap → Option X) : Option X :=
  match o with
  | (r, b0, b1) => k (tget (fiS madrigallaw18_ints.r0 [.b r, .li b0, .li b1]).tmps 0) (fiS madrigallaw18_ints.r0 [.b r, .li b0, .li b1]).heap
theorem madrigallaw18_ints.hfx : FinOk 2 madrigallaw18_ints.fins madrigallaw18_ints.fx :=
  finOk_cons rfl rfl (by intro ls o h; unfold madrigallaw18_ints.z0 at h; split at h <;> first | (cases h; rfl) | cases h) (finOk_nil)
def madrigallaw18_ints.g (k : Nat) : (List Int × List Int) → Option (Bool × List Int × List Int)
  | (a, b) => madrigallaw18_ints k a b
def madrigallaw18_ints.J (k : Nat) : FC := fun X => callF madrigallaw18_ints.ps madrigallaw18_ints.bs (fun ls => (madrigallaw18_ints.cv ls).bind (madrigallaw18_ints.g k)) (madrigallaw18_ints.outK X)
noncomputable def madrigallaw18_ints.ctx (k : Nat) (X : Type) : Ctx X := mkCtx Try.prog (madrigallaw18_ints.T k) [(0, madrigallaw18_ints_l0.J k)] [] X
theorem madrigallaw18_ints.fits (k : Nat) : fitsL (madrigallaw18_ints.ctx k (Bool × List Int × List Int)) (bodyOf Try.f20) = [(.block 0 (.loop (loopB 0 madrigallaw18_ints.code)), madrigallaw18_ints_l0.J k (Bool × List Int × List Int))] := by kernel_rfl
theorem madrigallaw18_ints.run (k : Nat) (d : (List Int × List Int)) : evC (madrigallaw18_ints.ctx k (Bool × List Int × List Int)) (bodyOf Try.f20) (funcK Try.prog Try.f20.results.toList madrigallaw18_ints.fins) (fiA Try.f20.ntmps madrigallaw18_ints.ps madrigallaw18_ints.bs (madrigallaw18_ints.un d)) = madrigallaw18_ints.g k d := by
  obtain ⟨a, b⟩ := d; kernel_rfl
theorem madrigallaw18_ints.ok (k : Nat) : CallOk Try.prog 20 (madrigallaw18_ints.J k) :=
  func_mk (P := Try.prog) (n0 := 2) (ps := madrigallaw18_ints.ps) (bs := madrigallaw18_ints.bs) (fins := madrigallaw18_ints.fins) (fx := madrigallaw18_ints.fx) (g := (madrigallaw18_ints.g k)) (cv := madrigallaw18_ints.cv) (un := madrigallaw18_ints.un) (c := madrigallaw18_ints.ctx k) (ctx_ok (madrigallaw18_ints.rows k) _ _) rfl hm0 Try.func20 (by kernel_rfl) (by kernel_rfl) rfl (fits_of (madrigallaw18_ints.fits k) (fits_cons (madrigallaw18_ints_l0.ok k _) (fits_nil))) (Nat.le_of_ble_eq_true (by kernel_rfl)) madrigallaw18_ints.hcv madrigallaw18_ints.hfx (madrigallaw18_ints.run k) (outK := madrigallaw18_ints.outK) (by intro X o k; rcases o with ⟨r, b0, b1⟩ <;> rfl)

-- madrigal/alloc.pieces
def alloc_pieces (n : Int) : Option (Int) :=
  br (decide (n < 1)) (
    some 0)
  (
    br (decide (1000 < n)) (
      some 0)
    (
      some (IntKind.i64.wrap ((IntKind.i64.wrap ((IntKind.i64.wrap (n + 16)) - 1)).tdiv 16))))
noncomputable def alloc_pieces.code : Code := bodyOf Try.f38
noncomputable def alloc_pieces.T (k : Nat) : List Row := []
theorem alloc_pieces.rows (k : Nat) : RowsOk Try.prog (alloc_pieces.T k) := rows_nil _
def alloc_pieces.ps : List SV := [.int .i64]
def alloc_pieces.bs : List (SB × Md) := []
def alloc_pieces.cv : List Lf → Option (Int)
  | [.i n] => some n
  | _ => none
def alloc_pieces.un : (Int) → List Lf
  | n => [.i n]
theorem alloc_pieces.hcv : ∀ ls d, alloc_pieces.cv ls = some d → ls = alloc_pieces.un d := by
  intro ls d h; unfold alloc_pieces.cv at h; split at h <;> first | (cases h; rfl) | cases h
def alloc_pieces.r0 : Sk := { nt := 1, n0 := 0, slots := [(0, .int .i64)], blocks := [] }
def alloc_pieces.z0 : List Lf → Option (Int)
  | [.i r] => some r
  | _ => none
def alloc_pieces.fins : List (Sk × (List Lf → Option (Int))) := [(alloc_pieces.r0, alloc_pieces.z0)]
def alloc_pieces.fx : (Int) → Sk × List Lf
  | r => (alloc_pieces.r0, [.i r])
def alloc_pieces.outK (X : Type) (o : (Int)) (k : AV → Heap → Option X) : Option X :=
  match o with
  | r => k (tget (fiS alloc_pieces.r0 [.i r]).tmps 0) (fiS alloc_pieces.r0 [.i r]).heap
theorem alloc_pieces.hfx : FinOk 0 alloc_pieces.fins alloc_pieces.fx :=
  finOk_cons rfl rfl (by intro ls o h; unfold alloc_pieces.z0 at h; split at h <;> first | (cases h; rfl) | cases h) (finOk_nil)
def alloc_pieces.g : (Int) → Option (Int)
  | n => alloc_pieces n
def alloc_pieces.J : FC := fun X => callF alloc_pieces.ps alloc_pieces.bs (fun ls => (alloc_pieces.cv ls).bind alloc_pieces.g) (alloc_pieces.outK X)
noncomputable def alloc_pieces.ctx (k : Nat) (X : Type) : Ctx X := mkCtx Try.prog (alloc_pieces.T k) [] [] X
theorem alloc_pieces.fits (k : Nat) : fitsL (alloc_pieces.ctx k (Int)) (bodyOf Try.f38) = [] := by kernel_rfl
theorem alloc_pieces.run (k : Nat) (d : (Int)) : evC (alloc_pieces.ctx k (Int)) (bodyOf Try.f38) (funcK Try.prog Try.f38.results.toList alloc_pieces.fins) (fiA Try.f38.ntmps alloc_pieces.ps alloc_pieces.bs (alloc_pieces.un d)) = alloc_pieces.g d := by
  kernel_rfl
theorem alloc_pieces.ok : CallOk Try.prog 38 (alloc_pieces.J) :=
  func_mk (P := Try.prog) (n0 := 0) (ps := alloc_pieces.ps) (bs := alloc_pieces.bs) (fins := alloc_pieces.fins) (fx := alloc_pieces.fx) (g := alloc_pieces.g) (cv := alloc_pieces.cv) (un := alloc_pieces.un) (c := alloc_pieces.ctx 0) (ctx_ok (alloc_pieces.rows 0) _ _) rfl hm0 Try.func38 (by kernel_rfl) (by kernel_rfl) rfl (fits_of (alloc_pieces.fits 0) (fits_nil)) (Nat.le_of_ble_eq_true (by kernel_rfl)) alloc_pieces.hcv alloc_pieces.hfx (alloc_pieces.run 0) (outK := alloc_pieces.outK) (by intro X o k; rcases o with r <;> rfl)

-- madrigal/alloc.Pieces
def alloc_Pieces_l0 (k : Nat) : Nat → (Int × Int × Int × Int × List Int) → Option (List Int) := itN fun rec d => match d with
  | (n, p, t8, t9, out) =>
    br (decide (t9 < t8)) (
      need (p ≠ 0) <|
      need (p ≠ 0) <|
      let t24 := IntKind.i64.wrap ((IntKind.i64.wrap ((IntKind.i64.wrap ((IntKind.i64.wrap (t9 + 1)) * n)).tdiv p)) - (IntKind.i64.wrap ((IntKind.i64.wrap (t9 * n)).tdiv p)))
      need (((out ++ [t24]).length) * 8 ≤ 140737488355328) <|
      rec (n, p, t8, IntKind.i64.wrap (t9 + 1), out ++ [t24]))
    (
      some out)
def alloc_Pieces (k : Nat) (n : Int) : Option (List Int) :=
  (alloc_pieces n).bind fun t7 =>
  (alloc_Pieces_l0 k k (n, t7, t7, 0, [])).bind fun out =>
  some out
noncomputable def alloc_Pieces.code : Code := bodyOf Try.f17
noncomputable def alloc_Pieces.T (k : Nat) : List Row := [⟨38, alloc_pieces.ps, alloc_pieces.bs, alloc_pieces.J⟩]
theorem alloc_Pieces.rows (k : Nat) : RowsOk Try.prog (alloc_Pieces.T k) := rows_cons (alloc_pieces.ok) (rows_nil _)
def alloc_Pieces_l0.sk : Sk := { nt := 29, n0 := 0, slots := [(0, .int .i64), (3, .int .i64), (4, .whole 0), (8, .int .i64), (9, .int .i64)], blocks := [(.ints .i64, .own)] }
def alloc_Pieces_l0.cv : List Lf → Option (Int × Int × Int × Int × List Int)
  | [.i n, .i p, .i t8, .i t9, .li out] => some (n, p, t8, t9, out)
  | _ => none
def alloc_Pieces_l0.un : (Int × Int × Int × Int × List Int) → List Lf
  | (n, p, t8, t9, out) => [.i n, .i p, .i t8, .i t9, .li out]
theorem alloc_Pieces_l0.hcv : ∀ ls d, alloc_Pieces_l0.cv ls = some d → ls = alloc_Pieces_l0.un d := by
  intro ls d h; unfold alloc_Pieces_l0.cv at h; split at h <;> first | (cases h; rfl) | cases h
def alloc_Pieces_l0.x0 : Sk := { nt := 29, n0 := 0, slots := [(4, .whole 0)], blocks := [(.ints .i64, .own)] }
def alloc_Pieces_l0.y0 : List Lf → Option (List Int)
  | [.li out] => some out
  | _ => none
def alloc_Pieces_l0.exits : List (Nat × Sk × (List Lf → Option (List Int))) := [(2, alloc_Pieces_l0.x0, alloc_Pieces_l0.y0)]
def alloc_Pieces_l0.ex : (List Int) → Nat × Sk × List Lf
  | out => (2, alloc_Pieces_l0.x0, [.li out])
def alloc_Pieces_l0.exK (X : Type) (o : (List Int)) (k : Exit → St → Option X) : Option X :=
  match o with
  | out => k .normal (fiS alloc_Pieces_l0.x0 [.li out])
theorem alloc_Pieces_l0.hex : ExOk 0 alloc_Pieces_l0.exits alloc_Pieces_l0.ex :=
  exOk_cons rfl (by intro ls o h; unfold alloc_Pieces_l0.y0 at h; split at h <;> first | (cases h; rfl) | cases h) (exOk_nil)
noncomputable def alloc_Pieces_l0.ctx (k : Nat) (X : Type) : Ctx X := mkCtx Try.prog (alloc_Pieces.T k) [] [] X
theorem alloc_Pieces_l0.fits (k : Nat) : fitsL (alloc_Pieces_l0.ctx k (List Int)) (loopB 0 alloc_Pieces.code) = [] := by kernel_rfl
def alloc_Pieces_l0.J (k : Nat) (X : Type) : Contract X := fun c s => (pt alloc_Pieces_l0.sk alloc_Pieces_l0.cv s).bind fun d => (alloc_Pieces_l0 k k d).bind fun o => alloc_Pieces_l0.exK X o c
theorem alloc_Pieces_l0.run (k : Nat) (n : Nat) (d : (Int × Int × Int × Int × List Int)) : evC (alloc_Pieces_l0.ctx k (List Int)) (loopB 0 alloc_Pieces.code) (backK (fun s => (pt alloc_Pieces_l0.sk alloc_Pieces_l0.cv s).bind (alloc_Pieces_l0 k n)) alloc_Pieces_l0.exits) (fiS alloc_Pieces_l0.sk (alloc_Pieces_l0.un d)) = alloc_Pieces_l0 k (n + 1) d := by
  obtain ⟨n, p, t8, t9, out⟩ := d; kernel_rfl
theorem alloc_Pieces_l0.ok (k : Nat) (X : Type) : CodeOk Try.prog 0 (.block 0 (.loop (loopB 0 alloc_Pieces.code))) (alloc_Pieces_l0.J k X) :=
  loop_mk (c := alloc_Pieces_l0.ctx k) (ctx_ok (alloc_Pieces.rows k) _ _) rfl hm0 (fits_of (alloc_Pieces_l0.fits k) (fits_nil)) rfl alloc_Pieces_l0.hcv alloc_Pieces_l0.hex (fun _ => rfl) (alloc_Pieces_l0.run k) (exK := alloc_Pieces_l0.exK) (by intro X o k; rcases o with out <;> rfl) k X
def alloc_Pieces.ps : List SV := [.int .i64]
def alloc_Pieces.bs : List (SB × Md) := []
def alloc_Pieces.cv : List Lf → Option (Int)
  | [.i n] => some n
  | _ => none
def alloc_Pieces.un : (Int) → List Lf
  | n => [.i n]
theorem alloc_Pieces.hcv : ∀ ls d, alloc_Pieces.cv ls = some d → ls = alloc_Pieces.un d := by
  intro ls d h; unfold alloc_Pieces.cv at h; split at h <;> first | (cases h; rfl) | cases h
def alloc_Pieces.r0 : Sk := { nt := 1, n0 := 0, slots := [(0, .whole 0)], blocks := [(.ints .i64, .own)] }
def alloc_Pieces.z0 : List Lf → Option (List Int)
  | [.li r] => some r
  | _ => none
def alloc_Pieces.fins : List (Sk × (List Lf → Option (List Int))) := [(alloc_Pieces.r0, alloc_Pieces.z0)]
def alloc_Pieces.fx : (List Int) → Sk × List Lf
  | r => (alloc_Pieces.r0, [.li r])
def alloc_Pieces.outK (X : Type) (o : (List Int)) (k : AV → Heap → Option X) : Option X :=
  match o with
  | r => k (tget (fiS alloc_Pieces.r0 [.li r]).tmps 0) (fiS alloc_Pieces.r0 [.li r]).heap
theorem alloc_Pieces.hfx : FinOk 0 alloc_Pieces.fins alloc_Pieces.fx :=
  finOk_cons rfl rfl (by intro ls o h; unfold alloc_Pieces.z0 at h; split at h <;> first | (cases h; rfl) | cases h) (finOk_nil)
def alloc_Pieces.g (k : Nat) : (Int) → Option (List Int)
  | n => alloc_Pieces k n
def alloc_Pieces.J (k : Nat) : FC := fun X => callF alloc_Pieces.ps alloc_Pieces.bs (fun ls => (alloc_Pieces.cv ls).bind (alloc_Pieces.g k)) (alloc_Pieces.outK X)
noncomputable def alloc_Pieces.ctx (k : Nat) (X : Type) : Ctx X := mkCtx Try.prog (alloc_Pieces.T k) [(0, alloc_Pieces_l0.J k)] [] X
theorem alloc_Pieces.fits (k : Nat) : fitsL (alloc_Pieces.ctx k (List Int)) (bodyOf Try.f17) = [(.block 0 (.loop (loopB 0 alloc_Pieces.code)), alloc_Pieces_l0.J k (List Int))] := by kernel_rfl
theorem alloc_Pieces.run (k : Nat) (d : (Int)) : evC (alloc_Pieces.ctx k (List Int)) (bodyOf Try.f17) (funcK Try.prog Try.f17.results.toList alloc_Pieces.fins) (fiA Try.f17.ntmps alloc_Pieces.ps alloc_Pieces.bs (alloc_Pieces.un d)) = alloc_Pieces.g k d := by
  kernel_rfl
theorem alloc_Pieces.ok (k : Nat) : CallOk Try.prog 17 (alloc_Pieces.J k) :=
  func_mk (P := Try.prog) (n0 := 0) (ps := alloc_Pieces.ps) (bs := alloc_Pieces.bs) (fins := alloc_Pieces.fins) (fx := alloc_Pieces.fx) (g := (alloc_Pieces.g k)) (cv := alloc_Pieces.cv) (un := alloc_Pieces.un) (c := alloc_Pieces.ctx k) (ctx_ok (alloc_Pieces.rows k) _ _) rfl hm0 Try.func17 (by kernel_rfl) (by kernel_rfl) rfl (fits_of (alloc_Pieces.fits k) (fits_cons (alloc_Pieces_l0.ok k _) (fits_nil))) (Nat.le_of_ble_eq_true (by kernel_rfl)) alloc_Pieces.hcv alloc_Pieces.hfx (alloc_Pieces.run k) (outK := alloc_Pieces.outK) (by intro X o k; rcases o with r <;> rfl)

-- madrigal/alloc.Split
def alloc_Split_l0 (k : Nat) : Nat → (Int × Int × Int × Int × List Int) → Option (List Int) := itN fun rec d => match d with
  | (bits, p, t14, t15, out) =>
    br (decide (t15 < t14)) (
      need (p ≠ 0) <|
      need (p ≠ 0) <|
      br (decide (t15 < (bits.tmod p))) (
        let t27 := IntKind.i64.wrap ((IntKind.i64.wrap (bits.tdiv p)) + 1)
        need (((out ++ [t27]).length) * 8 ≤ 140737488355328) <|
        rec (bits, p, t14, IntKind.i64.wrap (t15 + 1), out ++ [t27]))
      (
        need (((out ++ [IntKind.i64.wrap (bits.tdiv p)]).length) * 8 ≤ 140737488355328) <|
        rec (bits, p, t14, IntKind.i64.wrap (t15 + 1), out ++ [IntKind.i64.wrap (bits.tdiv p)])))
    (
      some out)
def alloc_Split (k : Nat) (n : Int) (bits : Int) : Option (List Int) :=
  (alloc_pieces n).bind fun t10 =>
  (alloc_Split_l0 k k (if 1048576 < (if 0 > bits then 0 else bits) then 1048576 else (if 0 > bits then 0 else bits), t10, t10, 0, [])).bind fun out =>
  some out
noncomputable def alloc_Split.code : Code := bodyOf Try.f18
noncomputable def alloc_Split.T (k : Nat) : List Row := [⟨38, alloc_pieces.ps, alloc_pieces.bs, alloc_pieces.J⟩]
theorem alloc_Split.rows (k : Nat) : RowsOk Try.prog (alloc_Split.T k) := rows_cons (alloc_pieces.ok) (rows_nil _)
def alloc_Split_l0.sk : Sk := { nt := 34, n0 := 0, slots := [(1, .int .i64), (5, .int .i64), (6, .whole 0), (14, .int .i64), (15, .int .i64)], blocks := [(.ints .i64, .own)] }
def alloc_Split_l0.cv : List Lf → Option (Int × Int × Int × Int × List Int)
  | [.i bits, .i p, .i t14, .i t15, .li out] => some (bits, p, t14, t15, out)
  | _ => none
def alloc_Split_l0.un : (Int × Int × Int × Int × List Int) → List Lf
  | (bits, p, t14, t15, out) => [.i bits, .i p, .i t14, .i t15, .li out]
theorem alloc_Split_l0.hcv : ∀ ls d, alloc_Split_l0.cv ls = some d → ls = alloc_Split_l0.un d := by
  intro ls d h; unfold alloc_Split_l0.cv at h; split at h <;> first | (cases h; rfl) | cases h
def alloc_Split_l0.x0 : Sk := { nt := 34, n0 := 0, slots := [(6, .whole 0)], blocks := [(.ints .i64, .own)] }
def alloc_Split_l0.y0 : List Lf → Option (List Int)
  | [.li out] => some out
  | _ => none
def alloc_Split_l0.exits : List (Nat × Sk × (List Lf → Option (List Int))) := [(2, alloc_Split_l0.x0, alloc_Split_l0.y0)]
def alloc_Split_l0.ex : (List Int) → Nat × Sk × List Lf
  | out => (2, alloc_Split_l0.x0, [.li out])
def alloc_Split_l0.exK (X : Type) (o : (List Int)) (k : Exit → St → Option X) : Option X :=
  match o with
  | out => k .normal (fiS alloc_Split_l0.x0 [.li out])
theorem alloc_Split_l0.hex : ExOk 0 alloc_Split_l0.exits alloc_Split_l0.ex :=
  exOk_cons rfl (by intro ls o h; unfold alloc_Split_l0.y0 at h; split at h <;> first | (cases h; rfl) | cases h) (exOk_nil)
noncomputable def alloc_Split_l0.ctx (k : Nat) (X : Type) : Ctx X := mkCtx Try.prog (alloc_Split.T k) [] [] X
theorem alloc_Split_l0.fits (k : Nat) : fitsL (alloc_Split_l0.ctx k (List Int)) (loopB 0 alloc_Split.code) = [] := by kernel_rfl
def alloc_Split_l0.J (k : Nat) (X : Type) : Contract X := fun c s => (pt alloc_Split_l0.sk alloc_Split_l0.cv s).bind fun d => (alloc_Split_l0 k k d).bind fun o => alloc_Split_l0.exK X o c
theorem alloc_Split_l0.run (k : Nat) (n : Nat) (d : (Int × Int × Int × Int × List Int)) : evC (alloc_Split_l0.ctx k (List Int)) (loopB 0 alloc_Split.code) (backK (fun s => (pt alloc_Split_l0.sk alloc_Split_l0.cv s).bind (alloc_Split_l0 k n)) alloc_Split_l0.exits) (fiS alloc_Split_l0.sk (alloc_Split_l0.un d)) = alloc_Split_l0 k (n + 1) d := by
  obtain ⟨bits, p, t14, t15, out⟩ := d; kernel_rfl
theorem alloc_Split_l0.ok (k : Nat) (X : Type) : CodeOk Try.prog 0 (.block 0 (.loop (loopB 0 alloc_Split.code))) (alloc_Split_l0.J k X) :=
  loop_mk (c := alloc_Split_l0.ctx k) (ctx_ok (alloc_Split.rows k) _ _) rfl hm0 (fits_of (alloc_Split_l0.fits k) (fits_nil)) rfl alloc_Split_l0.hcv alloc_Split_l0.hex (fun _ => rfl) (alloc_Split_l0.run k) (exK := alloc_Split_l0.exK) (by intro X o k; rcases o with out <;> rfl) k X
def alloc_Split.ps : List SV := [.int .i64, .int .i64]
def alloc_Split.bs : List (SB × Md) := []
def alloc_Split.cv : List Lf → Option (Int × Int)
  | [.i n, .i bits] => some (n, bits)
  | _ => none
def alloc_Split.un : (Int × Int) → List Lf
  | (n, bits) => [.i n, .i bits]
theorem alloc_Split.hcv : ∀ ls d, alloc_Split.cv ls = some d → ls = alloc_Split.un d := by
  intro ls d h; unfold alloc_Split.cv at h; split at h <;> first | (cases h; rfl) | cases h
def alloc_Split.r0 : Sk := { nt := 1, n0 := 0, slots := [(0, .whole 0)], blocks := [(.ints .i64, .own)] }
def alloc_Split.z0 : List Lf → Option (List Int)
  | [.li r] => some r
  | _ => none
def alloc_Split.fins : List (Sk × (List Lf → Option (List Int))) := [(alloc_Split.r0, alloc_Split.z0)]
def alloc_Split.fx : (List Int) → Sk × List Lf
  | r => (alloc_Split.r0, [.li r])
def alloc_Split.outK (X : Type) (o : (List Int)) (k : AV → Heap → Option X) : Option X :=
  match o with
  | r => k (tget (fiS alloc_Split.r0 [.li r]).tmps 0) (fiS alloc_Split.r0 [.li r]).heap
theorem alloc_Split.hfx : FinOk 0 alloc_Split.fins alloc_Split.fx :=
  finOk_cons rfl rfl (by intro ls o h; unfold alloc_Split.z0 at h; split at h <;> first | (cases h; rfl) | cases h) (finOk_nil)
def alloc_Split.g (k : Nat) : (Int × Int) → Option (List Int)
  | (n, bits) => alloc_Split k n bits
def alloc_Split.J (k : Nat) : FC := fun X => callF alloc_Split.ps alloc_Split.bs (fun ls => (alloc_Split.cv ls).bind (alloc_Split.g k)) (alloc_Split.outK X)
noncomputable def alloc_Split.ctx (k : Nat) (X : Type) : Ctx X := mkCtx Try.prog (alloc_Split.T k) [(0, alloc_Split_l0.J k)] [] X
theorem alloc_Split.fits (k : Nat) : fitsL (alloc_Split.ctx k (List Int)) (bodyOf Try.f18) = [(.block 0 (.loop (loopB 0 alloc_Split.code)), alloc_Split_l0.J k (List Int))] := by kernel_rfl
theorem alloc_Split.run (k : Nat) (d : (Int × Int)) : evC (alloc_Split.ctx k (List Int)) (bodyOf Try.f18) (funcK Try.prog Try.f18.results.toList alloc_Split.fins) (fiA Try.f18.ntmps alloc_Split.ps alloc_Split.bs (alloc_Split.un d)) = alloc_Split.g k d := by
  obtain ⟨n, bits⟩ := d; kernel_rfl
theorem alloc_Split.ok (k : Nat) : CallOk Try.prog 18 (alloc_Split.J k) :=
  func_mk (P := Try.prog) (n0 := 0) (ps := alloc_Split.ps) (bs := alloc_Split.bs) (fins := alloc_Split.fins) (fx := alloc_Split.fx) (g := (alloc_Split.g k)) (cv := alloc_Split.cv) (un := alloc_Split.un) (c := alloc_Split.ctx k) (ctx_ok (alloc_Split.rows k) _ _) rfl hm0 Try.func18 (by kernel_rfl) (by kernel_rfl) rfl (fits_of (alloc_Split.fits k) (fits_cons (alloc_Split_l0.ok k _) (fits_nil))) (Nat.le_of_ble_eq_true (by kernel_rfl)) alloc_Split.hcv alloc_Split.hfx (alloc_Split.run k) (outK := alloc_Split.outK) (by intro X o k; rcases o with r <;> rfl)

-- madrigal/pvq.may
def pvq_may (n : Int) : Option (Bool) :=
  br (decide (1 ≤ n)) (
    some (decide (n ≤ 16)))
  (
    some false)
noncomputable def pvq_may.code : Code := bodyOf Try.f49
noncomputable def pvq_may.T (k : Nat) : List Row := []
theorem pvq_may.rows (k : Nat) : RowsOk Try.prog (pvq_may.T k) := rows_nil _
def pvq_may.ps : List SV := [.int .i64]
def pvq_may.bs : List (SB × Md) := []
def pvq_may.cv : List Lf → Option (Int)
  | [.i n] => some n
  | _ => none
def pvq_may.un : (Int) → List Lf
  | n => [.i n]
theorem pvq_may.hcv : ∀ ls d, pvq_may.cv ls = some d → ls = pvq_may.un d := by
  intro ls d h; unfold pvq_may.cv at h; split at h <;> first | (cases h; rfl) | cases h
def pvq_may.r0 : Sk := { nt := 1, n0 := 0, slots := [(0, .bool)], blocks := [] }
def pvq_may.z0 : List Lf → Option (Bool)
  | [.b r] => some r
  | _ => none
def pvq_may.fins : List (Sk × (List Lf → Option (Bool))) := [(pvq_may.r0, pvq_may.z0)]
def pvq_may.fx : (Bool) → Sk × List Lf
  | r => (pvq_may.r0, [.b r])
def pvq_may.outK (X : Type) (o : (Bool)) (k : AV → Heap → Option X) : Option X :=
  match o with
  | r => k (tget (fiS pvq_may.r0 [.b r]).tmps 0) (fiS pvq_may.r0 [.b r]).heap
theorem pvq_may.hfx : FinOk 0 pvq_may.fins pvq_may.fx :=
  finOk_cons rfl rfl (by intro ls o h; unfold pvq_may.z0 at h; split at h <;> first | (cases h; rfl) | cases h) (finOk_nil)
def pvq_may.g : (Int) → Option (Bool)
  | n => pvq_may n
def pvq_may.J : FC := fun X => callF pvq_may.ps pvq_may.bs (fun ls => (pvq_may.cv ls).bind pvq_may.g) (pvq_may.outK X)
noncomputable def pvq_may.ctx (k : Nat) (X : Type) : Ctx X := mkCtx Try.prog (pvq_may.T k) [] [] X
theorem pvq_may.fits (k : Nat) : fitsL (pvq_may.ctx k (Bool)) (bodyOf Try.f49) = [] := by kernel_rfl
theorem pvq_may.run (k : Nat) (d : (Int)) : evC (pvq_may.ctx k (Bool)) (bodyOf Try.f49) (funcK Try.prog Try.f49.results.toList pvq_may.fins) (fiA Try.f49.ntmps pvq_may.ps pvq_may.bs (pvq_may.un d)) = pvq_may.g d := by
  kernel_rfl
theorem pvq_may.ok : CallOk Try.prog 49 (pvq_may.J) :=
  func_mk (P := Try.prog) (n0 := 0) (ps := pvq_may.ps) (bs := pvq_may.bs) (fins := pvq_may.fins) (fx := pvq_may.fx) (g := pvq_may.g) (cv := pvq_may.cv) (un := pvq_may.un) (c := pvq_may.ctx 0) (ctx_ok (pvq_may.rows 0) _ _) rfl hm0 Try.func49 (by kernel_rfl) (by kernel_rfl) rfl (fits_of (pvq_may.fits 0) (fits_nil)) (Nat.le_of_ble_eq_true (by kernel_rfl)) pvq_may.hcv pvq_may.hfx (pvq_may.run 0) (outK := pvq_may.outK) (by intro X o k; rcases o with r <;> rfl)

-- madrigal/pvq.row
def pvq_row_l2 (k : Nat) : Nat → (Int × Int × Int × Int × Int × List Int) → Option (Int × Int × Int × List Int) := itN fun rec d => match d with
  | (k_, fewer, j, t13, t14, v) =>
    br (decide (j ≤ k_)) (
      need (0 ≤ j ∧ j < (((v.length) : Nat) : Int)) <|
      need (0 ≤ j ∧ j < (((v.length) : Nat) : Int)) <|
      need (0 ≤ (IntKind.i64.wrap (j - 1)) ∧ (IntKind.i64.wrap (j - 1)) < (((v.length) : Nat) : Int)) <|
      need (0 ≤ j ∧ j < (((v.length) : Nat) : Int)) <|
      rec (k_, v.getD (j.toNat) 0, IntKind.i64.wrap (j + 1), t13, t14, v.set (j.toNat) (if 4294967296 < (IntKind.i64.wrap ((IntKind.i64.wrap ((v.getD (j.toNat) 0) + (v.getD ((IntKind.i64.wrap (j - 1)).toNat) 0))) + fewer)) then 4294967296 else (IntKind.i64.wrap ((IntKind.i64.wrap ((v.getD (j.toNat) 0) + (v.getD ((IntKind.i64.wrap (j - 1)).toNat) 0))) + fewer)))))
    (
      some (k_, t13, t14, v))
def pvq_row_l0 (k : Nat) : Nat → (Int × Int × Int × List Int) → Option (List Int) := itN fun rec d => match d with
  | (k_, t13, t14, v) =>
    br (decide (t14 < t13)) (
      (pvq_row_l2 k k (k_, 1, 1, t13, t14, v)).bind fun (k_1, t13_1, t14_1, v1) =>
      rec (k_1, t13_1, IntKind.i64.wrap (t14_1 + 1), v1))
    (
      some v)
def pvq_row (k : Nat) (n : Int) (k_ : Int) : Option (List Int) :=
  need (0 ≤ (IntKind.i64.wrap (k_ + 1)) ∧ (IntKind.i64.wrap (k_ + 1)) = (IntKind.i64.wrap (k_ + 1)) ∧ (8 : Int) * (IntKind.i64.wrap (k_ + 1)) ≤ 281474976710656 ∧ (IntKind.i64.wrap (k_ + 1)) ≤ 9223372036854775807) <|
  let l0 := List.replicate ((IntKind.i64.wrap (k_ + 1)).toNat) 0
  need (0 ≤ (0 : Int) ∧ (0 : Int) < (((l0.length) : Nat) : Int)) <|
  (pvq_row_l0 k k (k_, n, 0, l0.set 0 1)).bind fun v =>
  some v
noncomputable def pvq_row.code : Code := bodyOf Try.f50
noncomputable def pvq_row.T (k : Nat) : List Row := []
theorem pvq_row.rows (k : Nat) : RowsOk Try.prog (pvq_row.T k) := rows_nil _
def pvq_row_l2.sk : Sk := { nt := 43, n0 := 0, slots := [(1, .int .i64), (5, .whole 0), (6, .int .i64), (7, .int .i64), (13, .int .i64), (14, .int .i64)], blocks := [(.ints .i64, .own)] }
def pvq_row_l2.cv : List Lf → Option (Int × Int × Int × Int × Int × List Int)
  | [.i k_, .i fewer, .i j, .i t13, .i t14, .li v] => some (k_, fewer, j, t13, t14, v)
  | _ => none
def pvq_row_l2.un : (Int × Int × Int × Int × Int × List Int) → List Lf
  | (k_, fewer, j, t13, t14, v) => [.i k_, .i fewer, .i j, .i t13, .i t14, .li v]
theorem pvq_row_l2.hcv : ∀ ls d, pvq_row_l2.cv ls = some d → ls = pvq_row_l2.un d := by
  intro ls d h; unfold pvq_row_l2.cv at h; split at h <;> first | (cases h; rfl) | cases h
def pvq_row_l2.x0 : Sk := { nt := 43, n0 := 0, slots := [(1, .int .i64), (5, .whole 0), (13, .int .i64), (14, .int .i64)], blocks := [(.ints .i64, .own)] }
def pvq_row_l2.y0 : List Lf → Option (Int × Int × Int × List Int)
  | [.i k_, .i t13, .i t14, .li v] => some (k_, t13, t14, v)
  | _ => none
def pvq_row_l2.exits : List (Nat × Sk × (List Lf → Option (Int × Int × Int × List Int))) := [(4, pvq_row_l2.x0, pvq_row_l2.y0)]
def pvq_row_l2.ex : (Int × Int × Int × List Int) → Nat × Sk × List Lf
  | (k_, t13, t14, v) => (4, pvq_row_l2.x0, [.i k_, .i t13, .i t14, .li v])
def pvq_row_l2.exK (X : Type) (o : (Int × Int × Int × List Int)) (k : Exit → St → Option X) : Option X :=
  match o with
  | (k_, t13, t14, v) => k .normal (fiS pvq_row_l2.x0 [.i k_, .i t13, .i t14, .li v])
theorem pvq_row_l2.hex : ExOk 0 pvq_row_l2.exits pvq_row_l2.ex :=
  exOk_cons rfl (by intro ls o h; unfold pvq_row_l2.y0 at h; split at h <;> first | (cases h; rfl) | cases h) (exOk_nil)
noncomputable def pvq_row_l2.ctx (k : Nat) (X : Type) : Ctx X := mkCtx Try.prog (pvq_row.T k) [] [] X
theorem pvq_row_l2.fits (k : Nat) : fitsL (pvq_row_l2.ctx k (Int × Int × Int × List Int)) (loopB 2 pvq_row.code) = [] := by kernel_rfl
def pvq_row_l2.J (k : Nat) (X : Type) : Contract X := fun c s => (pt pvq_row_l2.sk pvq_row_l2.cv s).bind fun d => (pvq_row_l2 k k d).bind fun o => pvq_row_l2.exK X o c
theorem pvq_row_l2.run (k : Nat) (n : Nat) (d : (Int × Int × Int × Int × Int × List Int)) : evC (pvq_row_l2.ctx k (Int × Int × Int × List Int)) (loopB 2 pvq_row.code) (backK (fun s => (pt pvq_row_l2.sk pvq_row_l2.cv s).bind (pvq_row_l2 k n)) pvq_row_l2.exits) (fiS pvq_row_l2.sk (pvq_row_l2.un d)) = pvq_row_l2 k (n + 1) d := by
  obtain ⟨k_, fewer, j, t13, t14, v⟩ := d; kernel_rfl
theorem pvq_row_l2.ok (k : Nat) (X : Type) : CodeOk Try.prog 0 (.block 2 (.loop (loopB 2 pvq_row.code))) (pvq_row_l2.J k X) :=
  loop_mk (c := pvq_row_l2.ctx k) (ctx_ok (pvq_row.rows k) _ _) rfl hm0 (fits_of (pvq_row_l2.fits k) (fits_nil)) rfl pvq_row_l2.hcv pvq_row_l2.hex (fun _ => rfl) (pvq_row_l2.run k) (exK := pvq_row_l2.exK) (by intro X o k; rcases o with ⟨k_, t13, t14, v⟩ <;> rfl) k X
def pvq_row_l0.sk : Sk := { nt := 43, n0 := 0, slots := [(1, .int .i64), (5, .whole 0), (13, .int .i64), (14, .int .i64)], blocks := [(.ints .i64, .own)] }
def pvq_row_l0.cv : List Lf → Option (Int × Int × Int × List Int)
  | [.i k_, .i t13, .i t14, .li v] => some (k_, t13, t14, v)
  | _ => none
def pvq_row_l0.un : (Int × Int × Int × List Int) → List Lf
  | (k_, t13, t14, v) => [.i k_, .i t13, .i t14, .li v]
theorem pvq_row_l0.hcv : ∀ ls d, pvq_row_l0.cv ls = some d → ls = pvq_row_l0.un d := by
  intro ls d h; unfold pvq_row_l0.cv at h; split at h <;> first | (cases h; rfl) | cases h
def pvq_row_l0.x0 : Sk := { nt := 43, n0 := 0, slots := [(5, .whole 0)], blocks := [(.ints .i64, .own)] }
def pvq_row_l0.y0 : List Lf → Option (List Int)
  | [.li v] => some v
  | _ => none
def pvq_row_l0.exits : List (Nat × Sk × (List Lf → Option (List Int))) := [(2, pvq_row_l0.x0, pvq_row_l0.y0)]
def pvq_row_l0.ex : (List Int) → Nat × Sk × List Lf
  | v => (2, pvq_row_l0.x0, [.li v])
def pvq_row_l0.exK (X : Type) (o : (List Int)) (k : Exit → St → Option X) : Option X :=
  match o with
  | v => k .normal (fiS pvq_row_l0.x0 [.li v])
theorem pvq_row_l0.hex : ExOk 0 pvq_row_l0.exits pvq_row_l0.ex :=
  exOk_cons rfl (by intro ls o h; unfold pvq_row_l0.y0 at h; split at h <;> first | (cases h; rfl) | cases h) (exOk_nil)
noncomputable def pvq_row_l0.ctx (k : Nat) (X : Type) : Ctx X := mkCtx Try.prog (pvq_row.T k) [(2, pvq_row_l2.J k)] [] X
theorem pvq_row_l0.fits (k : Nat) : fitsL (pvq_row_l0.ctx k (List Int)) (loopB 0 pvq_row.code) = [(.block 2 (.loop (loopB 2 pvq_row.code)), pvq_row_l2.J k (List Int))] := by kernel_rfl
def pvq_row_l0.J (k : Nat) (X : Type) : Contract X := fun c s => (pt pvq_row_l0.sk pvq_row_l0.cv s).bind fun d => (pvq_row_l0 k k d).bind fun o => pvq_row_l0.exK X o c
theorem pvq_row_l0.run (k : Nat) (n : Nat) (d : (Int × Int × Int × List Int)) : evC (pvq_row_l0.ctx k (List Int)) (loopB 0 pvq_row.code) (backK (fun s => (pt pvq_row_l0.sk pvq_row_l0.cv s).bind (pvq_row_l0 k n)) pvq_row_l0.exits) (fiS pvq_row_l0.sk (pvq_row_l0.un d)) = pvq_row_l0 k (n + 1) d := by
  obtain ⟨k_, t13, t14, v⟩ := d; kernel_rfl
theorem pvq_row_l0.ok (k : Nat) (X : Type) : CodeOk Try.prog 0 (.block 0 (.loop (loopB 0 pvq_row.code))) (pvq_row_l0.J k X) :=
  loop_mk (c := pvq_row_l0.ctx k) (ctx_ok (pvq_row.rows k) _ _) rfl hm0 (fits_of (pvq_row_l0.fits k) (fits_cons (pvq_row_l2.ok k _) (fits_nil))) rfl pvq_row_l0.hcv pvq_row_l0.hex (fun _ => rfl) (pvq_row_l0.run k) (exK := pvq_row_l0.exK) (by intro X o k; rcases o with v <;> rfl) k X
def pvq_row.ps : List SV := [.int .i64, .int .i64]
def pvq_row.bs : List (SB × Md) := []
def pvq_row.cv : List Lf → Option (Int × Int)
  | [.i n, .i k_] => some (n, k_)
  | _ => none
def pvq_row.un : (Int × Int) → List Lf
  | (n, k_) => [.i n, .i k_]
theorem pvq_row.hcv : ∀ ls d, pvq_row.cv ls = some d → ls = pvq_row.un d := by
  intro ls d h; unfold pvq_row.cv at h; split at h <;> first | (cases h; rfl) | cases h
def pvq_row.r0 : Sk := { nt := 1, n0 := 0, slots := [(0, .whole 0)], blocks := [(.ints .i64, .own)] }
def pvq_row.z0 : List Lf → Option (List Int)
  | [.li r] => some r
  | _ => none
def pvq_row.fins : List (Sk × (List Lf → Option (List Int))) := [(pvq_row.r0, pvq_row.z0)]
def pvq_row.fx : (List Int) → Sk × List Lf
  | r => (pvq_row.r0, [.li r])
def pvq_row.outK (X : Type) (o : (List Int)) (k : AV → Heap → Option X) : Option X :=
  match o with
  | r => k (tget (fiS pvq_row.r0 [.li r]).tmps 0) (fiS pvq_row.r0 [.li r]).heap
theorem pvq_row.hfx : FinOk 0 pvq_row.fins pvq_row.fx :=
  finOk_cons rfl rfl (by intro ls o h; unfold pvq_row.z0 at h; split at h <;> first | (cases h; rfl) | cases h) (finOk_nil)
def pvq_row.g (k : Nat) : (Int × Int) → Option (List Int)
  | (n, k_) => pvq_row k n k_
def pvq_row.J (k : Nat) : FC := fun X => callF pvq_row.ps pvq_row.bs (fun ls => (pvq_row.cv ls).bind (pvq_row.g k)) (pvq_row.outK X)
noncomputable def pvq_row.ctx (k : Nat) (X : Type) : Ctx X := mkCtx Try.prog (pvq_row.T k) [(0, pvq_row_l0.J k), (2, pvq_row_l2.J k)] [] X
theorem pvq_row.fits (k : Nat) : fitsL (pvq_row.ctx k (List Int)) (bodyOf Try.f50) = [(.block 0 (.loop (loopB 0 pvq_row.code)), pvq_row_l0.J k (List Int))] := by kernel_rfl
theorem pvq_row.run (k : Nat) (d : (Int × Int)) : evC (pvq_row.ctx k (List Int)) (bodyOf Try.f50) (funcK Try.prog Try.f50.results.toList pvq_row.fins) (fiA Try.f50.ntmps pvq_row.ps pvq_row.bs (pvq_row.un d)) = pvq_row.g k d := by
  obtain ⟨n, k_⟩ := d; kernel_rfl
theorem pvq_row.ok (k : Nat) : CallOk Try.prog 50 (pvq_row.J k) :=
  func_mk (P := Try.prog) (n0 := 0) (ps := pvq_row.ps) (bs := pvq_row.bs) (fins := pvq_row.fins) (fx := pvq_row.fx) (g := (pvq_row.g k)) (cv := pvq_row.cv) (un := pvq_row.un) (c := pvq_row.ctx k) (ctx_ok (pvq_row.rows k) _ _) rfl hm0 Try.func50 (by kernel_rfl) (by kernel_rfl) rfl (fits_of (pvq_row.fits k) (fits_cons (pvq_row_l0.ok k _) (fits_nil))) (Nat.le_of_ble_eq_true (by kernel_rfl)) pvq_row.hcv pvq_row.hfx (pvq_row.run k) (outK := pvq_row.outK) (by intro X o k; rcases o with r <;> rfl)

-- madrigal/pvq.Most
def pvq_Most_l0 (k : Nat) : Nat → (Int × List Int) → Option (Int) := itN fun rec d => match d with
  | (k_, l) =>
    need (0 ≤ k_ ∧ k_ < (((l.length) : Nat) : Int)) <|
    br (decide (4294967296 ≤ (l.getD (k_.toNat) 0))) (
      rec (IntKind.i64.wrap (k_ - 1), l))
    (
      some k_)
def pvq_Most (k : Nat) (n : Int) : Option (Int) :=
  (pvq_may n).bind fun t6 =>
  br (!t6) (
    some 0)
  (
    (pvq_row k n 64).bind fun t9 =>
    (pvq_Most_l0 k k (64, t9)).bind fun k_ =>
    some k_)
noncomputable def pvq_Most.code : Code := bodyOf Try.f35
noncomputable def pvq_Most.T (k : Nat) : List Row := [⟨49, pvq_may.ps, pvq_may.bs, pvq_may.J⟩, ⟨50, pvq_row.ps, pvq_row.bs, pvq_row.J k⟩]
theorem pvq_Most.rows (k : Nat) : RowsOk Try.prog (pvq_Most.T k) := rows_cons (pvq_may.ok) (rows_cons (pvq_row.ok k) (rows_nil _))
def pvq_Most_l0.sk : Sk := { nt := 18, n0 := 0, slots := [(3, .whole 0), (4, .int .i64)], blocks := [(.ints .i64, .own)] }
def pvq_Most_l0.cv : List Lf → Option (Int × List Int)
  | [.i k_, .li l] => some (k_, l)
  | _ => none
def pvq_Most_l0.un : (Int × List Int) → List Lf
  | (k_, l) => [.i k_, .li l]
theorem pvq_Most_l0.hcv : ∀ ls d, pvq_Most_l0.cv ls = some d → ls = pvq_Most_l0.un d := by
  intro ls d h; unfold pvq_Most_l0.cv at h; split at h <;> first | (cases h; rfl) | cases h
def pvq_Most_l0.x0 : Sk := { nt := 18, n0 := 0, slots := [(4, .int .i64)], blocks := [] }
def pvq_Most_l0.y0 : List Lf → Option (Int)
  | [.i k_] => some k_
  | _ => none
def pvq_Most_l0.exits : List (Nat × Sk × (List Lf → Option (Int))) := [(2, pvq_Most_l0.x0, pvq_Most_l0.y0)]
def pvq_Most_l0.ex : (Int) → Nat × Sk × List Lf
  | k_ => (2, pvq_Most_l0.x0, [.i k_])
def pvq_Most_l0.exK (X : Type) (o : (Int)) (k : Exit → St → Option X) : Option X :=
  match o with
  | k_ => k .normal (fiS pvq_Most_l0.x0 [.i k_])
theorem pvq_Most_l0.hex : ExOk 0 pvq_Most_l0.exits pvq_Most_l0.ex :=
  exOk_cons rfl (by intro ls o h; unfold pvq_Most_l0.y0 at h; split at h <;> first | (cases h; rfl) | cases h) (exOk_nil)
noncomputable def pvq_Most_l0.ctx (k : Nat) (X : Type) : Ctx X := mkCtx Try.prog (pvq_Most.T k) [] [] X
theorem pvq_Most_l0.fits (k : Nat) : fitsL (pvq_Most_l0.ctx k (Int)) (loopB 0 pvq_Most.code) = [] := by kernel_rfl
def pvq_Most_l0.J (k : Nat) (X : Type) : Contract X := fun c s => (pt pvq_Most_l0.sk pvq_Most_l0.cv s).bind fun d => (pvq_Most_l0 k k d).bind fun o => pvq_Most_l0.exK X o c
theorem pvq_Most_l0.run (k : Nat) (n : Nat) (d : (Int × List Int)) : evC (pvq_Most_l0.ctx k (Int)) (loopB 0 pvq_Most.code) (backK (fun s => (pt pvq_Most_l0.sk pvq_Most_l0.cv s).bind (pvq_Most_l0 k n)) pvq_Most_l0.exits) (fiS pvq_Most_l0.sk (pvq_Most_l0.un d)) = pvq_Most_l0 k (n + 1) d := by
  obtain ⟨k_, l⟩ := d; kernel_rfl
theorem pvq_Most_l0.ok (k : Nat) (X : Type) : CodeOk Try.prog 0 (.block 0 (.loop (loopB 0 pvq_Most.code))) (pvq_Most_l0.J k X) :=
  loop_mk (c := pvq_Most_l0.ctx k) (ctx_ok (pvq_Most.rows k) _ _) rfl hm0 (fits_of (pvq_Most_l0.fits k) (fits_nil)) rfl pvq_Most_l0.hcv pvq_Most_l0.hex (fun _ => rfl) (pvq_Most_l0.run k) (exK := pvq_Most_l0.exK) (by intro X o k; rcases o with k_ <;> rfl) k X
def pvq_Most.ps : List SV := [.int .i64]
def pvq_Most.bs : List (SB × Md) := []
def pvq_Most.cv : List Lf → Option (Int)
  | [.i n] => some n
  | _ => none
def pvq_Most.un : (Int) → List Lf
  | n => [.i n]
theorem pvq_Most.hcv : ∀ ls d, pvq_Most.cv ls = some d → ls = pvq_Most.un d := by
  intro ls d h; unfold pvq_Most.cv at h; split at h <;> first | (cases h; rfl) | cases h
def pvq_Most.r0 : Sk := { nt := 1, n0 := 0, slots := [(0, .int .i64)], blocks := [] }
def pvq_Most.z0 : List Lf → Option (Int)
  | [.i r] => some r
  | _ => none
def pvq_Most.fins : List (Sk × (List Lf → Option (Int))) := [(pvq_Most.r0, pvq_Most.z0)]
def pvq_Most.fx : (Int) → Sk × List Lf
  | r => (pvq_Most.r0, [.i r])
def pvq_Most.outK (X : Type) (o : (Int)) (k : AV → Heap → Option X) : Option X :=
  match o with
  | r => k (tget (fiS pvq_Most.r0 [.i r]).tmps 0) (fiS pvq_Most.r0 [.i r]).heap
theorem pvq_Most.hfx : FinOk 0 pvq_Most.fins pvq_Most.fx :=
  finOk_cons rfl rfl (by intro ls o h; unfold pvq_Most.z0 at h; split at h <;> first | (cases h; rfl) | cases h) (finOk_nil)
def pvq_Most.g (k : Nat) : (Int) → Option (Int)
  | n => pvq_Most k n
def pvq_Most.J (k : Nat) : FC := fun X => callF pvq_Most.ps pvq_Most.bs (fun ls => (pvq_Most.cv ls).bind (pvq_Most.g k)) (pvq_Most.outK X)
noncomputable def pvq_Most.ctx (k : Nat) (X : Type) : Ctx X := mkCtx Try.prog (pvq_Most.T k) [(0, pvq_Most_l0.J k)] [] X
theorem pvq_Most.fits (k : Nat) : fitsL (pvq_Most.ctx k (Int)) (bodyOf Try.f35) = [(.block 0 (.loop (loopB 0 pvq_Most.code)), pvq_Most_l0.J k (Int))] := by kernel_rfl
theorem pvq_Most.run (k : Nat) (d : (Int)) : evC (pvq_Most.ctx k (Int)) (bodyOf Try.f35) (funcK Try.prog Try.f35.results.toList pvq_Most.fins) (fiA Try.f35.ntmps pvq_Most.ps pvq_Most.bs (pvq_Most.un d)) = pvq_Most.g k d := by
  kernel_rfl
theorem pvq_Most.ok (k : Nat) : CallOk Try.prog 35 (pvq_Most.J k) :=
  func_mk (P := Try.prog) (n0 := 0) (ps := pvq_Most.ps) (bs := pvq_Most.bs) (fins := pvq_Most.fins) (fx := pvq_Most.fx) (g := (pvq_Most.g k)) (cv := pvq_Most.cv) (un := pvq_Most.un) (c := pvq_Most.ctx k) (ctx_ok (pvq_Most.rows k) _ _) rfl hm0 Try.func35 (by kernel_rfl) (by kernel_rfl) rfl (fits_of (pvq_Most.fits k) (fits_cons (pvq_Most_l0.ok k _) (fits_nil))) (Nat.le_of_ble_eq_true (by kernel_rfl)) pvq_Most.hcv pvq_Most.hfx (pvq_Most.run k) (outK := pvq_Most.outK) (by intro X o k; rcases o with r <;> rfl)

-- madrigal/pvq.Count
def pvq_Count (k : Nat) (n : Int) (k_ : Int) : Option (Int) :=
  (pvq_may n).bind fun t6 =>
  br (!t6) (
    some 0)
  (
    br (decide (k_ < 0)) (
      some 0)
    (
      br (decide (64 < k_)) (
        some 0)
      (
        (pvq_row k n k_).bind fun t18 =>
        need (0 ≤ k_ ∧ k_ < (((t18.length) : Nat) : Int)) <|
        some (t18.getD (k_.toNat) 0))))
noncomputable def pvq_Count.code : Code := bodyOf Try.f37
noncomputable def pvq_Count.T (k : Nat) : List Row := [⟨49, pvq_may.ps, pvq_may.bs, pvq_may.J⟩, ⟨50, pvq_row.ps, pvq_row.bs, pvq_row.J k⟩]
theorem pvq_Count.rows (k : Nat) : RowsOk Try.prog (pvq_Count.T k) := rows_cons (pvq_may.ok) (rows_cons (pvq_row.ok k) (rows_nil _))
def pvq_Count.ps : List SV := [.int .i64, .int .i64]
def pvq_Count.bs : List (SB × Md) := []
def pvq_Count.cv : List Lf → Option (Int × Int)
  | [.i n, .i k_] => some (n, k_)
  | _ => none
def pvq_Count.un : (Int × Int) → List Lf
  | (n, k_) => [.i n, .i k_]
theorem pvq_Count.hcv : ∀ ls d, pvq_Count.cv ls = some d → ls = pvq_Count.un d := by
  intro ls d h; unfold pvq_Count.cv at h; split at h <;> first | (cases h; rfl) | cases h
def pvq_Count.r0 : Sk := { nt := 1, n0 := 0, slots := [(0, .int .i64)], blocks := [] }
def pvq_Count.z0 : List Lf → Option (Int)
  | [.i r] => some r
  | _ => none
def pvq_Count.fins : List (Sk × (List Lf → Option (Int))) := [(pvq_Count.r0, pvq_Count.z0)]
def pvq_Count.fx : (Int) → Sk × List Lf
  | r => (pvq_Count.r0, [.i r])
def pvq_Count.outK (X : Type) (o : (Int)) (k : AV → Heap → Option X) : Option X :=
  match o with
  | r => k (tget (fiS pvq_Count.r0 [.i r]).tmps 0) (fiS pvq_Count.r0 [.i r]).heap
theorem pvq_Count.hfx : FinOk 0 pvq_Count.fins pvq_Count.fx :=
  finOk_cons rfl rfl (by intro ls o h; unfold pvq_Count.z0 at h; split at h <;> first | (cases h; rfl) | cases h) (finOk_nil)
def pvq_Count.g (k : Nat) : (Int × Int) → Option (Int)
  | (n, k_) => pvq_Count k n k_
def pvq_Count.J (k : Nat) : FC := fun X => callF pvq_Count.ps pvq_Count.bs (fun ls => (pvq_Count.cv ls).bind (pvq_Count.g k)) (pvq_Count.outK X)
noncomputable def pvq_Count.ctx (k : Nat) (X : Type) : Ctx X := mkCtx Try.prog (pvq_Count.T k) [] [] X
theorem pvq_Count.fits (k : Nat) : fitsL (pvq_Count.ctx k (Int)) (bodyOf Try.f37) = [] := by kernel_rfl
theorem pvq_Count.run (k : Nat) (d : (Int × Int)) : evC (pvq_Count.ctx k (Int)) (bodyOf Try.f37) (funcK Try.prog Try.f37.results.toList pvq_Count.fins) (fiA Try.f37.ntmps pvq_Count.ps pvq_Count.bs (pvq_Count.un d)) = pvq_Count.g k d := by
  obtain ⟨n, k_⟩ := d; kernel_rfl
theorem pvq_Count.ok (k : Nat) : CallOk Try.prog 37 (pvq_Count.J k) :=
  func_mk (P := Try.prog) (n0 := 0) (ps := pvq_Count.ps) (bs := pvq_Count.bs) (fins := pvq_Count.fins) (fx := pvq_Count.fx) (g := (pvq_Count.g k)) (cv := pvq_Count.cv) (un := pvq_Count.un) (c := pvq_Count.ctx k) (ctx_ok (pvq_Count.rows k) _ _) rfl hm0 Try.func37 (by kernel_rfl) (by kernel_rfl) rfl (fits_of (pvq_Count.fits k) (fits_nil)) (Nat.le_of_ble_eq_true (by kernel_rfl)) pvq_Count.hcv pvq_Count.hfx (pvq_Count.run k) (outK := pvq_Count.outK) (by intro X o k; rcases o with r <;> rfl)

-- math/bits.Len64
def bits_Len64_c7 (k : Nat) (d : (Int × Int)) : Option (Int) := match d with
  | (x, n) =>
    br (decide (256 ≤ x)) (
      need (0 ≤ (IntKind.u8.wrap (x.fdiv 256)) ∧ (IntKind.u8.wrap (x.fdiv 256)) < ((str0).size : Int)) <|
      some (IntKind.i64.wrap ((IntKind.i64.wrap (n + 8)) + (IntKind.i64.wrap (((str0).data.getD ((IntKind.u8.wrap (x.fdiv 256)).toNat) 0).toNat : Int)))))
    (
      need (0 ≤ (IntKind.u8.wrap x) ∧ (IntKind.u8.wrap x) < ((str0).size : Int)) <|
      some (IntKind.i64.wrap (n + (IntKind.i64.wrap (((str0).data.getD ((IntKind.u8.wrap x).toNat) 0).toNat : Int)))))
def bits_Len64_c4 (k : Nat) (d : (Int × Int)) : Option (Int) := match d with
  | (x, n) =>
    br (decide (65536 ≤ x)) (
      (bits_Len64_c7 k (x.fdiv 65536, IntKind.i64.wrap (n + 16))).bind fun n1 =>
      some n1)
    (
      (bits_Len64_c7 k (x, n)).bind fun n2 =>
      some n2)
def bits_Len64 (k : Nat) (x : Int) : Option (Int) :=
  br (decide (4294967296 ≤ x)) (
    (bits_Len64_c4 k (x.fdiv 4294967296, 32)).bind fun n =>
    some n)
  (
    (bits_Len64_c4 k (x, 0)).bind fun n1 =>
    some n1)
noncomputable def bits_Len64.code : Code := bodyOf Try.f51
noncomputable def bits_Len64.T (k : Nat) : List Row := []
theorem bits_Len64.rows (k : Nat) : RowsOk Try.prog (bits_Len64.T k) := rows_nil _
def bits_Len64_c7.sk : Sk := { nt := 25, n0 := 0, slots := [(0, .int .u64), (2, .int .i64)], blocks := [] }
def bits_Len64_c7.cv : List Lf → Option (Int × Int)
  | [.i x, .i n] => some (x, n)
  | _ => none
def bits_Len64_c7.un : (Int × Int) → List Lf
  | (x, n) => [.i x, .i n]
theorem bits_Len64_c7.hcv : ∀ ls d, bits_Len64_c7.cv ls = some d → ls = bits_Len64_c7.un d := by
  intro ls d h; unfold bits_Len64_c7.cv at h; split at h <;> first | (cases h; rfl) | cases h
def bits_Len64_c7.x0 : Sk := { nt := 25, n0 := 0, slots := [(2, .int .i64)], blocks := [] }
def bits_Len64_c7.y0 : List Lf → Option (Int)
  | [.i n] => some n
  | _ => none
def bits_Len64_c7.exits : List (Nat × Sk × (List Lf → Option (Int))) := [(1, bits_Len64_c7.x0, bits_Len64_c7.y0)]
def bits_Len64_c7.ex : (Int) → Nat × Sk × List Lf
  | n => (1, bits_Len64_c7.x0, [.i n])
def bits_Len64_c7.exK (X : Type) (o : (Int)) (k : Exit → St → Option X) : Option X :=
  match o with
  | n => k .ret (fiS bits_Len64_c7.x0 [.i n])
theorem bits_Len64_c7.hex : ExOk 0 bits_Len64_c7.exits bits_Len64_c7.ex :=
  exOk_cons rfl (by intro ls o h; unfold bits_Len64_c7.y0 at h; split at h <;> first | (cases h; rfl) | cases h) (exOk_nil)
noncomputable def bits_Len64_c7.ctx (k : Nat) (X : Type) : Ctx X := mkCtx Try.prog (bits_Len64.T k) [] [] X
theorem bits_Len64_c7.fits (k : Nat) : fitsL (bits_Len64_c7.ctx k (Int)) (cutB 7 bits_Len64.code) = [] := by kernel_rfl
def bits_Len64_c7.J (k : Nat) (X : Type) : Contract X := fun c s => (pt bits_Len64_c7.sk bits_Len64_c7.cv s).bind fun d => (bits_Len64_c7 k d).bind fun o => bits_Len64_c7.exK X o c
theorem bits_Len64_c7.run (k : Nat) (d : (Int × Int)) : evC (bits_Len64_c7.ctx k (Int)) (cutB 7 bits_Len64.code) (koE bits_Len64_c7.exits) (fiS bits_Len64_c7.sk (bits_Len64_c7.un d)) = bits_Len64_c7 k d := by
  obtain ⟨x, n⟩ := d; kernel_rfl
theorem bits_Len64_c7.ok (k : Nat) (X : Type) : CodeOk Try.prog 0 (cutB 7 bits_Len64.code) (bits_Len64_c7.J k X) :=
  piece_mk (c := bits_Len64_c7.ctx k) (ctx_ok (bits_Len64.rows k) _ _) rfl hm0 (fits_of (bits_Len64_c7.fits k) (fits_nil)) rfl bits_Len64_c7.hcv bits_Len64_c7.hex (bits_Len64_c7.run k) (exK := bits_Len64_c7.exK) (by intro X o k; rcases o with n <;> rfl) X
def bits_Len64_c4.sk : Sk := { nt := 25, n0 := 0, slots := [(0, .int .u64), (2, .int .i64)], blocks := [] }
def bits_Len64_c4.cv : List Lf → Option (Int × Int)
  | [.i x, .i n] => some (x, n)
  | _ => none
def bits_Len64_c4.un : (Int × Int) → List Lf
  | (x, n) => [.i x, .i n]
theorem bits_Len64_c4.hcv : ∀ ls d, bits_Len64_c4.cv ls = some d → ls = bits_Len64_c4.un d := by
  intro ls d h; unfold bits_Len64_c4.cv at h; split at h <;> first | (cases h; rfl) | cases h
def bits_Len64_c4.x0 : Sk := { nt := 25, n0 := 0, slots := [(2, .int .i64)], blocks := [] }
def bits_Len64_c4.y0 : List Lf → Option (Int)
  | [.i n] => some n
  | _ => none
def bits_Len64_c4.exits : List (Nat × Sk × (List Lf → Option (Int))) := [(1, bits_Len64_c4.x0, bits_Len64_c4.y0)]
def bits_Len64_c4.ex : (Int) → Nat × Sk × List Lf
  | n => (1, bits_Len64_c4.x0, [.i n])
def bits_Len64_c4.exK (X : Type) (o : (Int)) (k : Exit → St → Option X) : Option X :=
  match o with
  | n => k .ret (fiS bits_Len64_c4.x0 [.i n])
theorem bits_Len64_c4.hex : ExOk 0 bits_Len64_c4.exits bits_Len64_c4.ex :=
  exOk_cons rfl (by intro ls o h; unfold bits_Len64_c4.y0 at h; split at h <;> first | (cases h; rfl) | cases h) (exOk_nil)
noncomputable def bits_Len64_c4.ctx (k : Nat) (X : Type) : Ctx X := mkCtx Try.prog (bits_Len64.T k) [] [(7, bits_Len64_c7.J k)] X
theorem bits_Len64_c4.fits (k : Nat) : fitsL (bits_Len64_c4.ctx k (Int)) (cutB 4 bits_Len64.code) = [((cutB 7 bits_Len64.code), bits_Len64_c7.J k (Int))] := by kernel_rfl
def bits_Len64_c4.J (k : Nat) (X : Type) : Contract X := fun c s => (pt bits_Len64_c4.sk bits_Len64_c4.cv s).bind fun d => (bits_Len64_c4 k d).bind fun o => bits_Len64_c4.exK X o c
theorem bits_Len64_c4.run (k : Nat) (d : (Int × Int)) : evC (bits_Len64_c4.ctx k (Int)) (cutB 4 bits_Len64.code) (koE bits_Len64_c4.exits) (fiS bits_Len64_c4.sk (bits_Len64_c4.un d)) = bits_Len64_c4 k d := by
  obtain ⟨x, n⟩ := d; kernel_rfl
theorem bits_Len64_c4.ok (k : Nat) (X : Type) : CodeOk Try.prog 0 (cutB 4 bits_Len64.code) (bits_Len64_c4.J k X) :=
  piece_mk (c := bits_Len64_c4.ctx k) (ctx_ok (bits_Len64.rows k) _ _) rfl hm0 (fits_of (bits_Len64_c4.fits k) (fits_cons (bits_Len64_c7.ok k _) (fits_nil))) rfl bits_Len64_c4.hcv bits_Len64_c4.hex (bits_Len64_c4.run k) (exK := bits_Len64_c4.exK) (by intro X o k; rcases o with n <;> rfl) X
def bits_Len64.ps : List SV := [.int .u64]
def bits_Len64.bs : List (SB × Md) := []
def bits_Len64.cv : List Lf → Option (Int)
  | [.i x] => some x
  | _ => none
def bits_Len64.un : (Int) → List Lf
  | x => [.i x]
theorem bits_Len64.hcv : ∀ ls d, bits_Len64.cv ls = some d → ls = bits_Len64.un d := by
  intro ls d h; unfold bits_Len64.cv at h; split at h <;> first | (cases h; rfl) | cases h
def bits_Len64.r0 : Sk := { nt := 1, n0 := 0, slots := [(0, .int .i64)], blocks := [] }
def bits_Len64.z0 : List Lf → Option (Int)
  | [.i r] => some r
  | _ => none
def bits_Len64.fins : List (Sk × (List Lf → Option (Int))) := [(bits_Len64.r0, bits_Len64.z0)]
def bits_Len64.fx : (Int) → Sk × List Lf
  | r => (bits_Len64.r0, [.i r])
def bits_Len64.outK (X : Type) (o : (Int)) (k : AV → Heap → Option X) : Option X :=
  match o with
  | r => k (tget (fiS bits_Len64.r0 [.i r]).tmps 0) (fiS bits_Len64.r0 [.i r]).heap
theorem bits_Len64.hfx : FinOk 0 bits_Len64.fins bits_Len64.fx :=
  finOk_cons rfl rfl (by intro ls o h; unfold bits_Len64.z0 at h; split at h <;> first | (cases h; rfl) | cases h) (finOk_nil)
def bits_Len64.g (k : Nat) : (Int) → Option (Int)
  | x => bits_Len64 k x
def bits_Len64.J (k : Nat) : FC := fun X => callF bits_Len64.ps bits_Len64.bs (fun ls => (bits_Len64.cv ls).bind (bits_Len64.g k)) (bits_Len64.outK X)
noncomputable def bits_Len64.ctx (k : Nat) (X : Type) : Ctx X := mkCtx Try.prog (bits_Len64.T k) [] [(4, bits_Len64_c4.J k), (7, bits_Len64_c7.J k)] X
theorem bits_Len64.fits (k : Nat) : fitsL (bits_Len64.ctx k (Int)) (bodyOf Try.f51) = [((cutB 4 bits_Len64.code), bits_Len64_c4.J k (Int))] := by kernel_rfl
theorem bits_Len64.run (k : Nat) (d : (Int)) : evC (bits_Len64.ctx k (Int)) (bodyOf Try.f51) (funcK Try.prog Try.f51.results.toList bits_Len64.fins) (fiA Try.f51.ntmps bits_Len64.ps bits_Len64.bs (bits_Len64.un d)) = bits_Len64.g k d := by
  kernel_rfl
theorem bits_Len64.ok (k : Nat) : CallOk Try.prog 51 (bits_Len64.J k) :=
  func_mk (P := Try.prog) (n0 := 0) (ps := bits_Len64.ps) (bs := bits_Len64.bs) (fins := bits_Len64.fins) (fx := bits_Len64.fx) (g := (bits_Len64.g k)) (cv := bits_Len64.cv) (un := bits_Len64.un) (c := bits_Len64.ctx k) (ctx_ok (bits_Len64.rows k) _ _) rfl hm0 Try.func51 (by kernel_rfl) (by kernel_rfl) rfl (fits_of (bits_Len64.fits k) (fits_cons (bits_Len64_c4.ok k _) (fits_nil))) (Nat.le_of_ble_eq_true (by kernel_rfl)) bits_Len64.hcv bits_Len64.hfx (bits_Len64.run k) (outK := bits_Len64.outK) (by intro X o k; rcases o with r <;> rfl)

-- madrigal/fix.Len
def fix_Len (k : Nat) (a : Int) : Option (Int) :=
  br (decide (a ≤ 0)) (
    some 0)
  (
    (bits_Len64 k (IntKind.u64.wrap a)).bind fun t7 =>
    some t7)
noncomputable def fix_Len.code : Code := bodyOf Try.f36
noncomputable def fix_Len.T (k : Nat) : List Row := [⟨51, bits_Len64.ps, bits_Len64.bs, bits_Len64.J k⟩]
theorem fix_Len.rows (k : Nat) : RowsOk Try.prog (fix_Len.T k) := rows_cons (bits_Len64.ok k) (rows_nil _)
def fix_Len.ps : List SV := [.int .i64]
def fix_Len.bs : List (SB × Md) := []
def fix_Len.cv : List Lf → Option (Int)
  | [.i a] => some a
  | _ => none
def fix_Len.un : (Int) → List Lf
  | a => [.i a]
theorem fix_Len.hcv : ∀ ls d, fix_Len.cv ls = some d → ls = fix_Len.un d := by
  intro ls d h; unfold fix_Len.cv at h; split at h <;> first | (cases h; rfl) | cases h
def fix_Len.r0 : Sk := { nt := 1, n0 := 0, slots := [(0, .int .i64)], blocks := [] }
def fix_Len.z0 : List Lf → Option (Int)
  | [.i r] => some r
  | _ => none
def fix_Len.fins : List (Sk × (List Lf → Option (Int))) := [(fix_Len.r0, fix_Len.z0)]
def fix_Len.fx : (Int) → Sk × List Lf
  | r => (fix_Len.r0, [.i r])
def fix_Len.outK (X : Type) (o : (Int)) (k : AV → Heap → Option X) : Option X :=
  match o with
  | r => k (tget (fiS fix_Len.r0 [.i r]).tmps 0) (fiS fix_Len.r0 [.i r]).heap
theorem fix_Len.hfx : FinOk 0 fix_Len.fins fix_Len.fx :=
  finOk_cons rfl rfl (by intro ls o h; unfold fix_Len.z0 at h; split at h <;> first | (cases h; rfl) | cases h) (finOk_nil)
def fix_Len.g (k : Nat) : (Int) → Option (Int)
  | a => fix_Len k a
def fix_Len.J (k : Nat) : FC := fun X => callF fix_Len.ps fix_Len.bs (fun ls => (fix_Len.cv ls).bind (fix_Len.g k)) (fix_Len.outK X)
noncomputable def fix_Len.ctx (k : Nat) (X : Type) : Ctx X := mkCtx Try.prog (fix_Len.T k) [] [] X
theorem fix_Len.fits (k : Nat) : fitsL (fix_Len.ctx k (Int)) (bodyOf Try.f36) = [] := by kernel_rfl
theorem fix_Len.run (k : Nat) (d : (Int)) : evC (fix_Len.ctx k (Int)) (bodyOf Try.f36) (funcK Try.prog Try.f36.results.toList fix_Len.fins) (fiA Try.f36.ntmps fix_Len.ps fix_Len.bs (fix_Len.un d)) = fix_Len.g k d := by
  kernel_rfl
theorem fix_Len.ok (k : Nat) : CallOk Try.prog 36 (fix_Len.J k) :=
  func_mk (P := Try.prog) (n0 := 0) (ps := fix_Len.ps) (bs := fix_Len.bs) (fins := fix_Len.fins) (fx := fix_Len.fx) (g := (fix_Len.g k)) (cv := fix_Len.cv) (un := fix_Len.un) (c := fix_Len.ctx k) (ctx_ok (fix_Len.rows k) _ _) rfl hm0 Try.func36 (by kernel_rfl) (by kernel_rfl) rfl (fits_of (fix_Len.fits k) (fits_nil)) (Nat.le_of_ble_eq_true (by kernel_rfl)) fix_Len.hcv fix_Len.hfx (fix_Len.run k) (outK := fix_Len.outK) (by intro X o k; rcases o with r <;> rfl)

-- madrigal/alloc.Pulses
def alloc_Pulses_l0 (k : Nat) : Nat → (Int × Int × Int × Int) → Option (Int) := itN fun rec d => match d with
  | (n, bits, least, most) =>
    br (decide (least < most)) (
      let t16 := IntKind.i64.wrap ((IntKind.i64.wrap (least + most)) + 1)
      (pvq_Count k n (IntKind.i64.wrap (t16.tdiv 2))).bind fun t20 =>
      (fix_Len k (IntKind.i64.wrap (t20 - 1))).bind fun t22 =>
      br (decide (t22 ≤ bits)) (
        rec (n, bits, IntKind.i64.wrap (t16.tdiv 2), most))
      (
        rec (n, bits, least, IntKind.i64.wrap ((IntKind.i64.wrap (t16.tdiv 2)) - 1))))
    (
      some least)
def alloc_Pulses (k : Nat) (n : Int) (bits : Int) : Option (Int) :=
  (pvq_Most k n).bind fun t9 =>
  (alloc_Pulses_l0 k k (n, bits, 0, t9)).bind fun least =>
  some least
noncomputable def alloc_Pulses.code : Code := bodyOf Try.f16
noncomputable def alloc_Pulses.T (k : Nat) : List Row := [⟨35, pvq_Most.ps, pvq_Most.bs, pvq_Most.J k⟩, ⟨37, pvq_Count.ps, pvq_Count.bs, pvq_Count.J k⟩, ⟨36, fix_Len.ps, fix_Len.bs, fix_Len.J k⟩]
theorem alloc_Pulses.rows (k : Nat) : RowsOk Try.prog (alloc_Pulses.T k) := rows_cons (pvq_Most.ok k) (rows_cons (pvq_Count.ok k) (rows_cons (fix_Len.ok k) (rows_nil _)))
def alloc_Pulses_l0.sk : Sk := { nt := 29, n0 := 0, slots := [(0, .int .i64), (1, .int .i64), (5, .int .i64), (6, .int .i64)], blocks := [] }
def alloc_Pulses_l0.cv : List Lf → Option (Int × Int × Int × Int)
  | [.i n, .i bits, .i least, .i most] => some (n, bits, least, most)
  | _ => none
def alloc_Pulses_l0.un : (Int × Int × Int × Int) → List Lf
  | (n, bits, least, most) => [.i n, .i bits, .i least, .i most]
theorem alloc_Pulses_l0.hcv : ∀ ls d, alloc_Pulses_l0.cv ls = some d → ls = alloc_Pulses_l0.un d := by
  intro ls d h; unfold alloc_Pulses_l0.cv at h; split at h <;> first | (cases h; rfl) | cases h
def alloc_Pulses_l0.x0 : Sk := { nt := 29, n0 := 0, slots := [(5, .int .i64)], blocks := [] }
def alloc_Pulses_l0.y0 : List Lf → Option (Int)
  | [.i least] => some least
  | _ => none
def alloc_Pulses_l0.exits : List (Nat × Sk × (List Lf → Option (Int))) := [(2, alloc_Pulses_l0.x0, alloc_Pulses_l0.y0)]
def alloc_Pulses_l0.ex : (Int) → Nat × Sk × List Lf
  | least => (2, alloc_Pulses_l0.x0, [.i least])
def alloc_Pulses_l0.exK (X : Type) (o : (Int)) (k : Exit → St → Option X) : Option X :=
  match o with
  | least => k .normal (fiS alloc_Pulses_l0.x0 [.i least])
theorem alloc_Pulses_l0.hex : ExOk 0 alloc_Pulses_l0.exits alloc_Pulses_l0.ex :=
  exOk_cons rfl (by intro ls o h; unfold alloc_Pulses_l0.y0 at h; split at h <;> first | (cases h; rfl) | cases h) (exOk_nil)
noncomputable def alloc_Pulses_l0.ctx (k : Nat) (X : Type) : Ctx X := mkCtx Try.prog (alloc_Pulses.T k) [] [] X
theorem alloc_Pulses_l0.fits (k : Nat) : fitsL (alloc_Pulses_l0.ctx k (Int)) (loopB 0 alloc_Pulses.code) = [] := by kernel_rfl
def alloc_Pulses_l0.J (k : Nat) (X : Type) : Contract X := fun c s => (pt alloc_Pulses_l0.sk alloc_Pulses_l0.cv s).bind fun d => (alloc_Pulses_l0 k k d).bind fun o => alloc_Pulses_l0.exK X o c
theorem alloc_Pulses_l0.run (k : Nat) (n : Nat) (d : (Int × Int × Int × Int)) : evC (alloc_Pulses_l0.ctx k (Int)) (loopB 0 alloc_Pulses.code) (backK (fun s => (pt alloc_Pulses_l0.sk alloc_Pulses_l0.cv s).bind (alloc_Pulses_l0 k n)) alloc_Pulses_l0.exits) (fiS alloc_Pulses_l0.sk (alloc_Pulses_l0.un d)) = alloc_Pulses_l0 k (n + 1) d := by
  obtain ⟨n, bits, least, most⟩ := d; kernel_rfl
theorem alloc_Pulses_l0.ok (k : Nat) (X : Type) : CodeOk Try.prog 0 (.block 0 (.loop (loopB 0 alloc_Pulses.code))) (alloc_Pulses_l0.J k X) :=
  loop_mk (c := alloc_Pulses_l0.ctx k) (ctx_ok (alloc_Pulses.rows k) _ _) rfl hm0 (fits_of (alloc_Pulses_l0.fits k) (fits_nil)) rfl alloc_Pulses_l0.hcv alloc_Pulses_l0.hex (fun _ => rfl) (alloc_Pulses_l0.run k) (exK := alloc_Pulses_l0.exK) (by intro X o k; rcases o with least <;> rfl) k X
def alloc_Pulses.ps : List SV := [.int .i64, .int .i64]
def alloc_Pulses.bs : List (SB × Md) := []
def alloc_Pulses.cv : List Lf → Option (Int × Int)
  | [.i n, .i bits] => some (n, bits)
  | _ => none
def alloc_Pulses.un : (Int × Int) → List Lf
  | (n, bits) => [.i n, .i bits]
theorem alloc_Pulses.hcv : ∀ ls d, alloc_Pulses.cv ls = some d → ls = alloc_Pulses.un d := by
  intro ls d h; unfold alloc_Pulses.cv at h; split at h <;> first | (cases h; rfl) | cases h
def alloc_Pulses.r0 : Sk := { nt := 1, n0 := 0, slots := [(0, .int .i64)], blocks := [] }
def alloc_Pulses.z0 : List Lf → Option (Int)
  | [.i r] => some r
  | _ => none
def alloc_Pulses.fins : List (Sk × (List Lf → Option (Int))) := [(alloc_Pulses.r0, alloc_Pulses.z0)]
def alloc_Pulses.fx : (Int) → Sk × List Lf
  | r => (alloc_Pulses.r0, [.i r])
def alloc_Pulses.outK (X : Type) (o : (Int)) (k : AV → Heap → Option X) : Option X :=
  match o with
  | r => k (tget (fiS alloc_Pulses.r0 [.i r]).tmps 0) (fiS alloc_Pulses.r0 [.i r]).heap
theorem alloc_Pulses.hfx : FinOk 0 alloc_Pulses.fins alloc_Pulses.fx :=
  finOk_cons rfl rfl (by intro ls o h; unfold alloc_Pulses.z0 at h; split at h <;> first | (cases h; rfl) | cases h) (finOk_nil)
def alloc_Pulses.g (k : Nat) : (Int × Int) → Option (Int)
  | (n, bits) => alloc_Pulses k n bits
def alloc_Pulses.J (k : Nat) : FC := fun X => callF alloc_Pulses.ps alloc_Pulses.bs (fun ls => (alloc_Pulses.cv ls).bind (alloc_Pulses.g k)) (alloc_Pulses.outK X)
noncomputable def alloc_Pulses.ctx (k : Nat) (X : Type) : Ctx X := mkCtx Try.prog (alloc_Pulses.T k) [(0, alloc_Pulses_l0.J k)] [] X
theorem alloc_Pulses.fits (k : Nat) : fitsL (alloc_Pulses.ctx k (Int)) (bodyOf Try.f16) = [(.block 0 (.loop (loopB 0 alloc_Pulses.code)), alloc_Pulses_l0.J k (Int))] := by kernel_rfl
theorem alloc_Pulses.run (k : Nat) (d : (Int × Int)) : evC (alloc_Pulses.ctx k (Int)) (bodyOf Try.f16) (funcK Try.prog Try.f16.results.toList alloc_Pulses.fins) (fiA Try.f16.ntmps alloc_Pulses.ps alloc_Pulses.bs (alloc_Pulses.un d)) = alloc_Pulses.g k d := by
  obtain ⟨n, bits⟩ := d; kernel_rfl
theorem alloc_Pulses.ok (k : Nat) : CallOk Try.prog 16 (alloc_Pulses.J k) :=
  func_mk (P := Try.prog) (n0 := 0) (ps := alloc_Pulses.ps) (bs := alloc_Pulses.bs) (fins := alloc_Pulses.fins) (fx := alloc_Pulses.fx) (g := (alloc_Pulses.g k)) (cv := alloc_Pulses.cv) (un := alloc_Pulses.un) (c := alloc_Pulses.ctx k) (ctx_ok (alloc_Pulses.rows k) _ _) rfl hm0 Try.func16 (by kernel_rfl) (by kernel_rfl) rfl (fits_of (alloc_Pulses.fits k) (fits_cons (alloc_Pulses_l0.ok k _) (fits_nil))) (Nat.le_of_ble_eq_true (by kernel_rfl)) alloc_Pulses.hcv alloc_Pulses.hfx (alloc_Pulses.run k) (outK := alloc_Pulses.outK) (by intro X o k; rcases o with r <;> rfl)

-- madrigal/madrigallaw18.awake
def madrigallaw18_awake (k : Nat) : Option (Bool) :=
  (alloc_Share k 10 [1, 1] [0, 0]).bind fun (t8_1, b0, b1, t8_0) =>
  (alloc_Share k 3 [1, 1] [0, 9]).bind fun (t14_1, b0_1, b1_1, t14_0) =>
  br (decide (t8_1 = 0)) (
    (madrigallaw18_ints k t8_0 [5, 5]).bind fun (t22, b0_2, b1_2) =>
    br t22 (
      br (decide (t14_1 = 0)) (
        (madrigallaw18_ints k t14_0 [1, 2]).bind fun (t31, b0_3, b1_3) =>
        br t31 (
          (alloc_Pieces k 20).bind fun t34 =>
          (madrigallaw18_ints k t34 [10, 10]).bind fun (t36, b0_4, b1_4) =>
          br t36 (
            (alloc_Split k 20 5).bind fun t39 =>
            (madrigallaw18_ints k t39 [3, 2]).bind fun (t41, b0_5, b1_5) =>
            br t41 (
              (alloc_Pulses k 2 2).bind fun t44 =>
              some (decide (t44 = 1)))
            (
              some false))
          (
            some false))
        (
          some false))
      (
        some false))
    (
      some false))
  (
    some false)
noncomputable def madrigallaw18_awake.code : Code := bodyOf Try.f14
noncomputable def madrigallaw18_awake.T (k : Nat) : List Row := [⟨15, alloc_Share.ps, alloc_Share.bs, alloc_Share.J k⟩, ⟨20, madrigallaw18_ints.ps, madrigallaw18_ints.bs, madrigallaw18_ints.J k⟩, ⟨17, alloc_Pieces.ps, alloc_Pieces.bs, alloc_Pieces.J k⟩, ⟨18, alloc_Split.ps, alloc_Split.bs, alloc_Split.J k⟩, ⟨16, alloc_Pulses.ps, alloc_Pulses.bs, alloc_Pulses.J k⟩]
theorem madrigallaw18_awake.rows (k : Nat) : RowsOk Try.prog (madrigallaw18_awake.T k) := rows_cons (alloc_Share.ok k) (rows_cons (madrigallaw18_ints.ok k) (rows_cons (alloc_Pieces.ok k) (rows_cons (alloc_Split.ok k) (rows_cons (alloc_Pulses.ok k) (rows_nil _)))))
def madrigallaw18_awake.ps : List SV := []
def madrigallaw18_awake.bs : List (SB × Md) := []
def madrigallaw18_awake.cv : List Lf → Option (Unit)
  | [] => some ()
  | _ => none
def madrigallaw18_awake.un : (Unit) → List Lf
  | () => []
theorem madrigallaw18_awake.hcv : ∀ ls d, madrigallaw18_awake.cv ls = some d → ls = madrigallaw18_awake.un d := by
  intro ls d h; unfold madrigallaw18_awake.cv at h; split at h <;> first | (cases h; rfl) | cases h
def madrigallaw18_awake.r0 : Sk := { nt := 1, n0 := 0, slots := [(0, .bool)], blocks := [] }
def madrigallaw18_awake.z0 : List Lf → Option (Bool)
  | [.b r] => some r
  | _ => none
def madrigallaw18_awake.fins : List (Sk × (List Lf → Option (Bool))) := [(madrigallaw18_awake.r0, madrigallaw18_awake.z0)]
def madrigallaw18_awake.fx : (Bool) → Sk × List Lf
  | r => (madrigallaw18_awake.r0, [.b r])
def madrigallaw18_awake.outK (X : Type) (o : (Bool)) (k : AV → Heap → Option X) : Option X :=
  match o with
  | r => k (tget (fiS madrigallaw18_awake.r0 [.b r]).tmps 0) (fiS madrigallaw18_awake.r0 [.b r]).heap
theorem madrigallaw18_awake.hfx : FinOk 0 madrigallaw18_awake.fins madrigallaw18_awake.fx :=
  finOk_cons rfl rfl (by intro ls o h; unfold madrigallaw18_awake.z0 at h; split at h <;> first | (cases h; rfl) | cases h) (finOk_nil)
def madrigallaw18_awake.g (k : Nat) : (Unit) → Option (Bool)
  | () => madrigallaw18_awake k
def madrigallaw18_awake.J (k : Nat) : FC := fun X => callF madrigallaw18_awake.ps madrigallaw18_awake.bs (fun ls => (madrigallaw18_awake.cv ls).bind (madrigallaw18_awake.g k)) (madrigallaw18_awake.outK X)
noncomputable def madrigallaw18_awake.ctx (k : Nat) (X : Type) : Ctx X := mkCtx Try.prog (madrigallaw18_awake.T k) [] [] X
theorem madrigallaw18_awake.fits (k : Nat) : fitsL (madrigallaw18_awake.ctx k (Bool)) (bodyOf Try.f14) = [] := by kernel_rfl
theorem madrigallaw18_awake.run (k : Nat) (d : (Unit)) : evC (madrigallaw18_awake.ctx k (Bool)) (bodyOf Try.f14) (funcK Try.prog Try.f14.results.toList madrigallaw18_awake.fins) (fiA Try.f14.ntmps madrigallaw18_awake.ps madrigallaw18_awake.bs (madrigallaw18_awake.un d)) = madrigallaw18_awake.g k d := by
  obtain ⟨⟩ := d; kernel_rfl
theorem madrigallaw18_awake.ok (k : Nat) : CallOk Try.prog 14 (madrigallaw18_awake.J k) :=
  func_mk (P := Try.prog) (n0 := 0) (ps := madrigallaw18_awake.ps) (bs := madrigallaw18_awake.bs) (fins := madrigallaw18_awake.fins) (fx := madrigallaw18_awake.fx) (g := (madrigallaw18_awake.g k)) (cv := madrigallaw18_awake.cv) (un := madrigallaw18_awake.un) (c := madrigallaw18_awake.ctx k) (ctx_ok (madrigallaw18_awake.rows k) _ _) rfl hm0 Try.func14 (by kernel_rfl) (by kernel_rfl) rfl (fits_of (madrigallaw18_awake.fits k) (fits_nil)) (Nat.le_of_ble_eq_true (by kernel_rfl)) madrigallaw18_awake.hcv madrigallaw18_awake.hfx (madrigallaw18_awake.run k) (outK := madrigallaw18_awake.outK) (by intro X o k; rcases o with r <;> rfl)

-- madrigal/madrigallaw18.AllocKnown
def madrigallaw18_AllocKnown (k : Nat) : Option (Bool) :=
  (madrigallaw18_awake k).bind fun t9 =>
  br (!t9) (
    some false)
  (
    (alloc_Share k (-1) [] []).bind fun (t12_1, b0, b1, t12_0) =>
    (alloc_Share k 1 [0] [0]).bind fun (t18_1, b0_1, b1_1, t18_0) =>
    (alloc_Share k 1 [1] []).bind fun (t23_1, b0_2, b1_2, t23_0) =>
    (alloc_Share k 5 [] []).bind fun (t27_1, b0_3, b1_3, t27_0) =>
    br (decide (t12_1 = 1)) (
      br (decide (t18_1 = 1)) (
        br (decide (t23_1 = 1)) (
          br (decide (t27_1 = 0)) (
            br (decide ((((t27_0.length) : Nat) : Int) = 0)) (
              (alloc_Pulses k 17 99).bind fun t50 =>
              br (decide (t50 = 0)) (
                (alloc_Pieces k 0).bind fun t54 =>
                br (decide ((((t54.length) : Nat) : Int) = 0)) (
                  (alloc_Split k 1001 5).bind fun t59 =>
                  some (decide ((((t59.length) : Nat) : Int) = 0)))
                (
                  some false))
              (
                some false))
            (
              some false))
          (
            some false))
        (
          some false))
      (
        some false))
    (
      some false))
noncomputable def madrigallaw18_AllocKnown.code : Code := bodyOf Try.f3
noncomputable def madrigallaw18_AllocKnown.T (k : Nat) : List Row := [⟨14, madrigallaw18_awake.ps, madrigallaw18_awake.bs, madrigallaw18_awake.J k⟩, ⟨15, alloc_Share.ps, alloc_Share.bs, alloc_Share.J k⟩, ⟨16, alloc_Pulses.ps, alloc_Pulses.bs, alloc_Pulses.J k⟩, ⟨17, alloc_Pieces.ps, alloc_Pieces.bs, alloc_Pieces.J k⟩, ⟨18, alloc_Split.ps, alloc_Split.bs, alloc_Split.J k⟩]
theorem madrigallaw18_AllocKnown.rows (k : Nat) : RowsOk Try.prog (madrigallaw18_AllocKnown.T k) := rows_cons (madrigallaw18_awake.ok k) (rows_cons (alloc_Share.ok k) (rows_cons (alloc_Pulses.ok k) (rows_cons (alloc_Pieces.ok k) (rows_cons (alloc_Split.ok k) (rows_nil _)))))
def madrigallaw18_AllocKnown.ps : List SV := []
def madrigallaw18_AllocKnown.bs : List (SB × Md) := []
def madrigallaw18_AllocKnown.cv : List Lf → Option (Unit)
  | [] => some ()
  | _ => none
def madrigallaw18_AllocKnown.un : (Unit) → List Lf
  | () => []
theorem madrigallaw18_AllocKnown.hcv : ∀ ls d, madrigallaw18_AllocKnown.cv ls = some d → ls = madrigallaw18_AllocKnown.un d := by
  intro ls d h; unfold madrigallaw18_AllocKnown.cv at h; split at h <;> first | (cases h; rfl) | cases h
def madrigallaw18_AllocKnown.r0 : Sk := { nt := 1, n0 := 0, slots := [(0, .bool)], blocks := [] }
def madrigallaw18_AllocKnown.z0 : List Lf → Option (Bool)
  | [.b r] => some r
  | _ => none
def madrigallaw18_AllocKnown.fins : List (Sk × (List Lf → Option (Bool))) := [(madrigallaw18_AllocKnown.r0, madrigallaw18_AllocKnown.z0)]
def madrigallaw18_AllocKnown.fx : (Bool) → Sk × List Lf
  | r => (madrigallaw18_AllocKnown.r0, [.b r])
def madrigallaw18_AllocKnown.outK (X : Type) (o : (Bool)) (k : AV → Heap → Option X) : Option X :=
  match o with
  | r => k (tget (fiS madrigallaw18_AllocKnown.r0 [.b r]).tmps 0) (fiS madrigallaw18_AllocKnown.r0 [.b r]).heap
theorem madrigallaw18_AllocKnown.hfx : FinOk 0 madrigallaw18_AllocKnown.fins madrigallaw18_AllocKnown.fx :=
  finOk_cons rfl rfl (by intro ls o h; unfold madrigallaw18_AllocKnown.z0 at h; split at h <;> first | (cases h; rfl) | cases h) (finOk_nil)
def madrigallaw18_AllocKnown.g (k : Nat) : (Unit) → Option (Bool)
  | () => madrigallaw18_AllocKnown k
def madrigallaw18_AllocKnown.J (k : Nat) : FC := fun X => callF madrigallaw18_AllocKnown.ps madrigallaw18_AllocKnown.bs (fun ls => (madrigallaw18_AllocKnown.cv ls).bind (madrigallaw18_AllocKnown.g k)) (madrigallaw18_AllocKnown.outK X)
noncomputable def madrigallaw18_AllocKnown.ctx (k : Nat) (X : Type) : Ctx X := mkCtx Try.prog (madrigallaw18_AllocKnown.T k) [] [] X
theorem madrigallaw18_AllocKnown.fits (k : Nat) : fitsL (madrigallaw18_AllocKnown.ctx k (Bool)) (bodyOf Try.f3) = [] := by kernel_rfl
theorem madrigallaw18_AllocKnown.run (k : Nat) (d : (Unit)) : evC (madrigallaw18_AllocKnown.ctx k (Bool)) (bodyOf Try.f3) (funcK Try.prog Try.f3.results.toList madrigallaw18_AllocKnown.fins) (fiA Try.f3.ntmps madrigallaw18_AllocKnown.ps madrigallaw18_AllocKnown.bs (madrigallaw18_AllocKnown.un d)) = madrigallaw18_AllocKnown.g k d := by
  obtain ⟨⟩ := d; kernel_rfl
theorem madrigallaw18_AllocKnown.ok (k : Nat) : CallOk Try.prog 3 (madrigallaw18_AllocKnown.J k) :=
  func_mk (P := Try.prog) (n0 := 0) (ps := madrigallaw18_AllocKnown.ps) (bs := madrigallaw18_AllocKnown.bs) (fins := madrigallaw18_AllocKnown.fins) (fx := madrigallaw18_AllocKnown.fx) (g := (madrigallaw18_AllocKnown.g k)) (cv := madrigallaw18_AllocKnown.cv) (un := madrigallaw18_AllocKnown.un) (c := madrigallaw18_AllocKnown.ctx k) (ctx_ok (madrigallaw18_AllocKnown.rows k) _ _) rfl hm0 Try.func3 (by kernel_rfl) (by kernel_rfl) rfl (fits_of (madrigallaw18_AllocKnown.fits k) (fits_nil)) (Nat.le_of_ble_eq_true (by kernel_rfl)) madrigallaw18_AllocKnown.hcv madrigallaw18_AllocKnown.hfx (madrigallaw18_AllocKnown.run k) (outK := madrigallaw18_AllocKnown.outK) (by intro X o k; rcases o with r <;> rfl)

-- madrigal/madrigallaw18.may
def madrigallaw18_may_l0 (k : Nat) : Nat → (Int × List Int × List Int) → Option ((List Int × List Int) ⊕ (Bool × List Int × List Int)) := itN fun rec d => match d with
  | (i, widths, loud) =>
    br (decide (i < (((widths.length) : Nat) : Int))) (
      need (0 ≤ i ∧ i < (((widths.length) : Nat) : Int)) <|
      br (decide ((widths.getD (i.toNat) 0) < 1)) (
        some (.inr (false, widths, loud)))
      (
        need (0 ≤ i ∧ i < (((widths.length) : Nat) : Int)) <|
        br (decide (1000 < (widths.getD (i.toNat) 0))) (
          some (.inr (false, widths, loud)))
        (
          need (0 ≤ i ∧ i < (((loud.length) : Nat) : Int)) <|
          br (decide ((loud.getD (i.toNat) 0) < 0)) (
            some (.inr (false, widths, loud)))
          (
            need (0 ≤ i ∧ i < (((loud.length) : Nat) : Int)) <|
            br (decide (1000 < (loud.getD (i.toNat) 0))) (
              some (.inr (false, widths, loud)))
            (
              rec (IntKind.i64.wrap (i + 1), widths, loud))))))
    (
      some (.inl (widths, loud)))
def madrigallaw18_may (k : Nat) (total : Int) (widths : List Int) (loud : List Int) : Option (Bool × List Int × List Int) :=
  br (decide (total < 0)) (
    some (false, widths, loud))
  (
    br (decide (1048576 < total)) (
      some (false, widths, loud))
    (
      br (decide (40 < (((widths.length) : Nat) : Int))) (
        some (false, widths, loud))
      (
        br (!decide ((((loud.length) : Nat) : Int) = (((widths.length) : Nat) : Int))) (
          some (false, widths, loud))
        (
          (madrigallaw18_may_l0 k k (0, widths, loud)).bind fun o => match o with
          | .inl (b0, b1) =>
            some (true, b0, b1)
          | .inr (t6, b0_1, b1_1) =>
            some (t6, b0_1, b1_1)))))
noncomputable def madrigallaw18_may.code : Code := bodyOf Try.f19
noncomputable def madrigallaw18_may.T (k : Nat) : List Row := []
theorem madrigallaw18_may.rows (k : Nat) : RowsOk Try.prog (madrigallaw18_may.T k) := rows_nil _
def madrigallaw18_may_l0.sk : Sk := { nt := 58, n0 := 2, slots := [(1, .whole 0), (2, .whole 1), (7, .int .i64)], blocks := [(.ints .i64, .ro), (.ints .i64, .ro)] }
def madrigallaw18_may_l0.cv : List Lf → Option (Int × List Int × List Int)
  | [.i i, .li widths, .li loud] => some (i, widths, loud)
  | _ => none
def madrigallaw18_may_l0.un : (Int × List Int × List Int) → List Lf
  | (i, widths, loud) => [.i i, .li widths, .li loud]
theorem madrigallaw18_may_l0.hcv : ∀ ls d, madrigallaw18_may_l0.cv ls = some d → ls = madrigallaw18_may_l0.un d := by
  intro ls d h; unfold madrigallaw18_may_l0.cv at h; split at h <;> first | (cases h; rfl) | cases h
def madrigallaw18_may_l0.x0 : Sk := { nt := 58, n0 := 2, slots := [], blocks := [(.ints .i64, .ro), (.ints .i64, .ro)] }
def madrigallaw18_may_l0.y0 : List Lf → Option ((List Int × List Int) ⊕ (Bool × List Int × List Int))
  | [.li b0, .li b1] => some (.inl (b0, b1))
  | _ => none
def madrigallaw18_may_l0.x1 : Sk := { nt := 58, n0 := 2, slots := [(6, .bool)], blocks := [(.ints .i64, .ro), (.ints .i64, .ro)] }
def madrigallaw18_may_l0.y1 : List Lf → Option ((List Int × List Int) ⊕ (Bool × List Int × List Int))
  | [.b t6, .li b0, .li b1] => some (.inr (t6, b0, b1))
  | _ => none
def madrigallaw18_may_l0.exits : List (Nat × Sk × (List Lf → Option ((List Int × List Int) ⊕ (Bool × List Int × List Int)))) := [(2, madrigallaw18_may_l0.x0, madrigallaw18_may_l0.y0), (1, madrigallaw18_may_l0.x1, madrigallaw18_may_l0.y1)]
def madrigallaw18_may_l0.ex : ((List Int × List Int) ⊕ (Bool × List Int × List Int)) → Nat × Sk × List Lf
  | .inl (b0, b1) => (2, madrigallaw18_may_l0.x0, [.li b0, .li b1])
  | .inr (t6, b0, b1) => (1, madrigallaw18_may_l0.x1, [.b t6, .li b0, .li b1])
def madrigallaw18_may_l0.exK (X : Type) (o : ((List Int × List Int) ⊕ (Bool × List Int × List Int))) (k : Exit → St → Option X) : Option X :=
  match o with
  | .inl (b0, b1) => k .normal (fiS madrigallaw18_may_l0.x0 [.li b0, .li b1])
  | .inr (t6, b0, b1) => k .ret (fiS madrigallaw18_may_l0.x1 [.b t6, .li b0, .li b1])
theorem madrigallaw18_may_l0.hex : ExOk 2 madrigallaw18_may_l0.exits madrigallaw18_may_l0.ex :=
  exOk_cons rfl (by intro ls o h; unfold madrigallaw18_may_l0.y0 at h; split at h <;> first | (cases h; rfl) | cases h) (exOk_cons rfl (by intro ls o h; unfold madrigallaw18_may_l0.y1 at h; split at h <;> first | (cases h; rfl) | cases h) (exOk_nil))
noncomputable def madrigallaw18_may_l0.ctx (k : Nat) (X : Type) : Ctx X := mkCtx Try.prog (madrigallaw18_may.T k) [] [] X
theorem madrigallaw18_may_l0.fits (k : Nat) : fitsL (madrigallaw18_may_l0.ctx k ((List Int × List Int) ⊕ (Bool × List Int × List Int))) (loopB 0 madrigallaw18_may.code) = [] := by kernel_rfl
def madrigallaw18_may_l0.J (k : Nat) (X : Type) : Contract X := fun c s => (pt madrigallaw18_may_l0.sk madrigallaw18_may_l0.cv s).bind fun d => (madrigallaw18_may_l0 k k d).bind fun o => madrigallaw18_may_l0.exK X o c
theorem madrigallaw18_may_l0.run (k : Nat) (n : Nat) (d : (Int × List Int × List Int)) : evC (madrigallaw18_may_l0.ctx k ((List Int × List Int) ⊕ (Bool × List Int × List Int))) (loopB 0 madrigallaw18_may.code) (backK (fun s => (pt madrigallaw18_may_l0.sk madrigallaw18_may_l0.cv s).bind (madrigallaw18_may_l0 k n)) madrigallaw18_may_l0.exits) (fiS madrigallaw18_may_l0.sk (madrigallaw18_may_l0.un d)) = madrigallaw18_may_l0 k (n + 1) d := by
  obtain ⟨i, widths, loud⟩ := d; kernel_rfl
theorem madrigallaw18_may_l0.ok (k : Nat) (X : Type) : CodeOk Try.prog 2 (.block 0 (.loop (loopB 0 madrigallaw18_may.code))) (madrigallaw18_may_l0.J k X) :=
  loop_mk (c := madrigallaw18_may_l0.ctx k) (ctx_ok (madrigallaw18_may.rows k) _ _) rfl hm0 (fits_of (madrigallaw18_may_l0.fits k) (fits_nil)) rfl madrigallaw18_may_l0.hcv madrigallaw18_may_l0.hex (fun _ => rfl) (madrigallaw18_may_l0.run k) (exK := madrigallaw18_may_l0.exK) (by intro X o k; rcases o with ⟨b0, b1⟩ | ⟨t6, b0, b1⟩ <;> rfl) k X
def madrigallaw18_may.ps : List SV := [.int .i64, .whole 0, .whole 1]
def madrigallaw18_may.bs : List (SB × Md) := [(.ints .i64, .ro), (.ints .i64, .ro)]
def madrigallaw18_may.cv : List Lf → Option (Int × List Int × List Int)
  | [.i total, .li widths, .li loud] => some (total, widths, loud)
  | _ => none
def madrigallaw18_may.un : (Int × List Int × List Int) → List Lf
  | (total, widths, loud) => [.i total, .li widths, .li loud]
theorem madrigallaw18_may.hcv : ∀ ls d, madrigallaw18_may.cv ls = some d → ls = madrigallaw18_may.un d := by
  intro ls d h; unfold madrigallaw18_may.cv at h; split at h <;> first | (cases h; rfl) | cases h
def madrigallaw18_may.r0 : Sk := { nt := 1, n0 := 2, slots := [(0, .bool)], blocks := [(.ints .i64, .ro), (.ints .i64, .ro)] }
def madrigallaw18_may.z0 : List Lf → Option (Bool × List Int × List Int)
  | [.b r, .li b0, .li b1] => some (r, b0, b1)
  | _ => none
def madrigallaw18_may.fins : List (Sk × (List Lf → Option (Bool × List Int × List Int))) := [(madrigallaw18_may.r0, madrigallaw18_may.z0)]
def madrigallaw18_may.fx : (Bool × List Int × List Int) → Sk × List Lf
  | (r, b0, b1) => (madrigallaw18_may.r0, [.b r, .li b0, .li b1])
def madrigallaw18_may.outK (X : Type) (o : (Bool × List Int × List Int)) (k : AV → Heap → Option X) : Option X :=
  match o with
  | (r, b0, b1) => k (tget (fiS madrigallaw18_may.r0 [.b r, .li b0, .li b1]).tmps 0) (fiS madrigallaw18_may.r0 [.b r, .li b0, .li b1]).heap
theorem madrigallaw18_may.hfx : FinOk 2 madrigallaw18_may.fins madrigallaw18_may.fx :=
  finOk_cons rfl rfl (by intro ls o h; unfold madrigallaw18_may.z0 at h; split at h <;> first | (cases h; rfl) | cases h) (finOk_nil)
def madrigallaw18_may.g (k : Nat) : (Int × List Int × List Int) → Option (Bool × List Int × List Int)
  | (total, widths, loud) => madrigallaw18_may k total widths loud
def madrigallaw18_may.J (k : Nat) : FC := fun X => callF madrigallaw18_may.ps madrigallaw18_may.bs (fun ls => (madrigallaw18_may.cv ls).bind (madrigallaw18_may.g k)) (madrigallaw18_may.outK X)
noncomputable def madrigallaw18_may.ctx (k : Nat) (X : Type) : Ctx X := mkCtx Try.prog (madrigallaw18_may.T k) [(0, madrigallaw18_may_l0.J k)] [] X
theorem madrigallaw18_may.fits (k : Nat) : fitsL (madrigallaw18_may.ctx k (Bool × List Int × List Int)) (bodyOf Try.f19) = [(.block 0 (.loop (loopB 0 madrigallaw18_may.code)), madrigallaw18_may_l0.J k (Bool × List Int × List Int))] := by kernel_rfl
theorem madrigallaw18_may.run (k : Nat) (d : (Int × List Int × List Int)) : evC (madrigallaw18_may.ctx k (Bool × List Int × List Int)) (bodyOf Try.f19) (funcK Try.prog Try.f19.results.toList madrigallaw18_may.fins) (fiA Try.f19.ntmps madrigallaw18_may.ps madrigallaw18_may.bs (madrigallaw18_may.un d)) = madrigallaw18_may.g k d := by
  obtain ⟨total, widths, loud⟩ := d; kernel_rfl
theorem madrigallaw18_may.ok (k : Nat) : CallOk Try.prog 19 (madrigallaw18_may.J k) :=
  func_mk (P := Try.prog) (n0 := 2) (ps := madrigallaw18_may.ps) (bs := madrigallaw18_may.bs) (fins := madrigallaw18_may.fins) (fx := madrigallaw18_may.fx) (g := (madrigallaw18_may.g k)) (cv := madrigallaw18_may.cv) (un := madrigallaw18_may.un) (c := madrigallaw18_may.ctx k) (ctx_ok (madrigallaw18_may.rows k) _ _) rfl hm0 Try.func19 (by kernel_rfl) (by kernel_rfl) rfl (fits_of (madrigallaw18_may.fits k) (fits_cons (madrigallaw18_may_l0.ok k _) (fits_nil))) (Nat.le_of_ble_eq_true (by kernel_rfl)) madrigallaw18_may.hcv madrigallaw18_may.hfx (madrigallaw18_may.run k) (outK := madrigallaw18_may.outK) (by intro X o k; rcases o with ⟨r, b0, b1⟩ <;> rfl)

-- madrigal/madrigalref17.Share
def madrigalref17_Share_l0 (k : Nat) : Nat → (Int × Int × Int × List Int × List Int) → Option (Int × Int × List Int × List Int) := itN fun rec d => match d with
  | (total, all, i, widths, loud) =>
    br (decide (i < (((widths.length) : Nat) : Int))) (
      need (0 ≤ i ∧ i < (((widths.length) : Nat) : Int)) <|
      rec (total, IntKind.i64.wrap (all + (widths.getD (i.toNat) 0)), IntKind.i64.wrap (i + 1), widths, loud))
    (
      some (total, all, widths, loud))
def madrigalref17_Share_l2 (k : Nat) : Nat → (Int × Int × Int × Int × List Int × List Int × List Int) → Option (Int × List Int × List Int × List Int) := itN fun rec d => match d with
  | (total, all, left, i, widths, loud, l) =>
    br (decide (i < (((widths.length) : Nat) : Int))) (
      need (0 ≤ i ∧ i < (((widths.length) : Nat) : Int)) <|
      let t39 := IntKind.i64.wrap (total * (widths.getD (i.toNat) 0))
      need (all ≠ 0) <|
      need (((l ++ [IntKind.i64.wrap (t39.tdiv all)]).length) * 8 ≤ 140737488355328) <|
      let l4 := l ++ [IntKind.i64.wrap (t39.tdiv all)]
      need (0 ≤ i ∧ i < (((l4.length) : Nat) : Int)) <|
      rec (total, all, IntKind.i64.wrap (left - (l4.getD (i.toNat) 0)), IntKind.i64.wrap (i + 1), widths, loud, l4))
    (
      some (left, widths, loud, l))
def madrigalref17_Share_l6 (k : Nat) : Nat → (Int × Int × Int × List Int × List Int × List Int) → Option (Int × Int × List Int × List Int × List Int) := itN fun rec d => match d with
  | (left, w, i, widths, loud, l) =>
    br (decide (i < (((l.length) : Nat) : Int))) (
      need (0 ≤ i ∧ i < (((loud.length) : Nat) : Int)) <|
      need (0 ≤ i ∧ i < (((l.length) : Nat) : Int)) <|
      need (0 ≤ i ∧ i < (((widths.length) : Nat) : Int)) <|
      need ((widths.getD (i.toNat) 0) ≠ 0) <|
      need (0 ≤ w ∧ w < (((loud.length) : Nat) : Int)) <|
      need (0 ≤ w ∧ w < (((l.length) : Nat) : Int)) <|
      need (0 ≤ w ∧ w < (((widths.length) : Nat) : Int)) <|
      need ((widths.getD (w.toNat) 0) ≠ 0) <|
      br (decide ((IntKind.i64.wrap ((IntKind.i64.wrap (16 * (loud.getD (w.toNat) 0))) - (IntKind.i64.wrap ((IntKind.i64.wrap (64 * (l.getD (w.toNat) 0))).tdiv (widths.getD (w.toNat) 0))))) < (IntKind.i64.wrap ((IntKind.i64.wrap (16 * (loud.getD (i.toNat) 0))) - (IntKind.i64.wrap ((IntKind.i64.wrap (64 * (l.getD (i.toNat) 0))).tdiv (widths.getD (i.toNat) 0))))))) (
        rec (left, i, IntKind.i64.wrap (i + 1), widths, loud, l))
      (
        rec (left, w, IntKind.i64.wrap (i + 1), widths, loud, l)))
    (
      some (left, w, widths, loud, l))
def madrigalref17_Share_l4 (k : Nat) : Nat → (Int × List Int × List Int × List Int) → Option (List Int × List Int × List Int) := itN fun rec d => match d with
  | (left, widths, loud, l) =>
    br (decide (0 < left)) (
      br (decide (0 < (((l.length) : Nat) : Int))) (
        (madrigalref17_Share_l6 k k (left, 0, 1, widths, loud, l)).bind fun (left1, w, widths1, loud1, l1) =>
        need (0 ≤ w ∧ w < (((l1.length) : Nat) : Int)) <|
        need (0 ≤ w ∧ w < (((l1.length) : Nat) : Int)) <|
        rec (IntKind.i64.wrap (left1 - 1), widths1, loud1, l1.set (w.toNat) (IntKind.i64.wrap ((l1.getD (w.toNat) 0) + 1))))
      (
        some (widths, loud, l)))
    (
      some (widths, loud, l))
def madrigalref17_Share (k : Nat) (total : Int) (widths : List Int) (loud : List Int) : Option (List Int × List Int × List Int) :=
  (madrigalref17_Share_l0 k k (total, 0, 0, widths, loud)).bind fun (total1, all, widths1, loud1) =>
  (madrigalref17_Share_l2 k k (total1, all, total1, 0, widths1, loud1, [])).bind fun (left, widths2, loud2, l) =>
  (madrigalref17_Share_l4 k k (left, widths2, loud2, l)).bind fun (b0, b1, l1) =>
  some (b0, b1, l1)
noncomputable def madrigalref17_Share.code : Code := bodyOf Try.f21
noncomputable def madrigalref17_Share.T (k : Nat) : List Row := []
theorem madrigalref17_Share.rows (k : Nat) : RowsOk Try.prog (madrigalref17_Share.T k) := rows_nil _
def madrigalref17_Share_l0.sk : Sk := { nt := 106, n0 := 2, slots := [(0, .int .i64), (1, .whole 0), (2, .whole 1), (7, .int .i64), (8, .int .i64)], blocks := [(.ints .i64, .ro), (.ints .i64, .ro)] }
def madrigalref17_Share_l0.cv : List Lf → Option (Int × Int × Int × List Int × List Int)
  | [.i total, .i all, .i i, .li widths, .li loud] => some (total, all, i, widths, loud)
  | _ => none
def madrigalref17_Share_l0.un : (Int × Int × Int × List Int × List Int) → List Lf
  | (total, all, i, widths, loud) => [.i total, .i all, .i i, .li widths, .li loud]
theorem madrigalref17_Share_l0.hcv : ∀ ls d, madrigalref17_Share_l0.cv ls = some d → ls = madrigalref17_Share_l0.un d := by
  intro ls d h; unfold madrigalref17_Share_l0.cv at h; split at h <;> first | (cases h; rfl) | cases h
def madrigalref17_Share_l0.x0 : Sk := { nt := 106, n0 := 2, slots := [(0, .int .i64), (1, .whole 0), (2, .whole 1), (7, .int .i64)], blocks := [(.ints .i64, .ro), (.ints .i64, .ro)] }
def madrigalref17_Share_l0.y0 : List Lf → Option (Int × Int × List Int × List Int)
  | [.i total, .i all, .li widths, .li loud] => some (total, all, widths, loud)
  | _ => none
def madrigalref17_Share_l0.exits : List (Nat × Sk × (List Lf → Option (Int × Int × List Int × List Int))) := [(2, madrigalref17_Share_l0.x0, madrigalref17_Share_l0.y0)]
def madrigalref17_Share_l0.ex : (Int × Int × List Int × List Int) → Nat × Sk × List Lf
  | (total, all, widths, loud) => (2, madrigalref17_Share_l0.x0, [.i total, .i all, .li widths, .li loud])
def madrigalref17_Share_l0.exK (X : Type) (o : (Int × Int × List Int × List Int)) (k : Exit → St → Option X) : Option X :=
  match o with
  | (total, all, widths, loud) => k .normal (fiS madrigalref17_Share_l0.x0 [.i total, .i all, .li widths, .li loud])
theorem madrigalref17_Share_l0.hex : ExOk 2 madrigalref17_Share_l0.exits madrigalref17_Share_l0.ex :=
  exOk_cons rfl (by intro ls o h; unfold madrigalref17_Share_l0.y0 at h; split at h <;> first | (cases h; rfl) | cases h) (exOk_nil)
noncomputable def madrigalref17_Share_l0.ctx (k : Nat) (X : Type) : Ctx X := mkCtx Try.prog (madrigalref17_Share.T k) [] [] X
theorem madrigalref17_Share_l0.fits (k : Nat) : fitsL (madrigalref17_Share_l0.ctx k (Int × Int × List Int × List Int)) (loopB 0 madrigalref17_Share.code) = [] := by kernel_rfl
def madrigalref17_Share_l0.J (k : Nat) (X : Type) : Contract X := fun c s => (pt madrigalref17_Share_l0.sk madrigalref17_Share_l0.cv s).bind fun d => (madrigalref17_Share_l0 k k d).bind fun o => madrigalref17_Share_l0.exK X o c
theorem madrigalref17_Share_l0.run (k : Nat) (n : Nat) (d : (Int × Int × Int × List Int × List Int)) : evC (madrigalref17_Share_l0.ctx k (Int × Int × List Int × List Int)) (loopB 0 madrigalref17_Share.code) (backK (fun s => (pt madrigalref17_Share_l0.sk madrigalref17_Share_l0.cv s).bind (madrigalref17_Share_l0 k n)) madrigalref17_Share_l0.exits) (fiS madrigalref17_Share_l0.sk (madrigalref17_Share_l0.un d)) = madrigalref17_Share_l0 k (n + 1) d := by
  obtain ⟨total, all, i, widths, loud⟩ := d; kernel_rfl
theorem madrigalref17_Share_l0.ok (k : Nat) (X : Type) : CodeOk Try.prog 2 (.block 0 (.loop (loopB 0 madrigalref17_Share.code))) (madrigalref17_Share_l0.J k X) :=
  loop_mk (c := madrigalref17_Share_l0.ctx k) (ctx_ok (madrigalref17_Share.rows k) _ _) rfl hm0 (fits_of (madrigalref17_Share_l0.fits k) (fits_nil)) rfl madrigalref17_Share_l0.hcv madrigalref17_Share_l0.hex (fun _ => rfl) (madrigalref17_Share_l0.run k) (exK := madrigalref17_Share_l0.exK) (by intro X o k; rcases o with ⟨total, all, widths, loud⟩ <;> rfl) k X
def madrigalref17_Share_l2.sk : Sk := { nt := 106, n0 := 2, slots := [(0, .int .i64), (1, .whole 0), (2, .whole 1), (7, .int .i64), (9, .whole 2), (10, .int .i64), (11, .int .i64)], blocks := [(.ints .i64, .ro), (.ints .i64, .ro), (.ints .i64, .own)] }
def madrigalref17_Share_l2.cv : List Lf → Option (Int × Int × Int × Int × List Int × List Int × List Int)
  | [.i total, .i all, .i left, .i i, .li widths, .li loud, .li l] => some (total, all, left, i, widths, loud, l)
  | _ => none
def madrigalref17_Share_l2.un : (Int × Int × Int × Int × List Int × List Int × List Int) → List Lf
  | (total, all, left, i, widths, loud, l) => [.i total, .i all, .i left, .i i, .li widths, .li loud, .li l]
theorem madrigalref17_Share_l2.hcv : ∀ ls d, madrigalref17_Share_l2.cv ls = some d → ls = madrigalref17_Share_l2.un d := by
  intro ls d h; unfold madrigalref17_Share_l2.cv at h; split at h <;> first | (cases h; rfl) | cases h
def madrigalref17_Share_l2.x0 : Sk := { nt := 106, n0 := 2, slots := [(1, .whole 0), (2, .whole 1), (9, .whole 2), (10, .int .i64)], blocks := [(.ints .i64, .ro), (.ints .i64, .ro), (.ints .i64, .own)] }
def madrigalref17_Share_l2.y0 : List Lf → Option (Int × List Int × List Int × List Int)
  | [.i left, .li widths, .li loud, .li l] => some (left, widths, loud, l)
  | _ => none
def madrigalref17_Share_l2.exits : List (Nat × Sk × (List Lf → Option (Int × List Int × List Int × List Int))) := [(4, madrigalref17_Share_l2.x0, madrigalref17_Share_l2.y0)]
def madrigalref17_Share_l2.ex : (Int × List Int × List Int × List Int) → Nat × Sk × List Lf
  | (left, widths, loud, l) => (4, madrigalref17_Share_l2.x0, [.i left, .li widths, .li loud, .li l])
def madrigalref17_Share_l2.exK (X : Type) (o : (Int × List Int × List Int × List Int)) (k : Exit → St → Option X) : Option X :=
  match o with
  | (left, widths, loud, l) => k .normal (fiS madrigalref17_Share_l2.x0 [.i left, .li widths, .li loud, .li l])
theorem madrigalref17_Share_l2.hex : ExOk 2 madrigalref17_Share_l2.exits madrigalref17_Share_l2.ex :=
  exOk_cons rfl (by intro ls o h; unfold madrigalref17_Share_l2.y0 at h; split at h <;> first | (cases h; rfl) | cases h) (exOk_nil)
noncomputable def madrigalref17_Share_l2.ctx (k : Nat) (X : Type) : Ctx X := mkCtx Try.prog (madrigalref17_Share.T k) [(0, madrigalref17_Share_l0.J k)] [] X
theorem madrigalref17_Share_l2.fits (k : Nat) : fitsL (madrigalref17_Share_l2.ctx k (Int × List Int × List Int × List Int)) (loopB 2 madrigalref17_Share.code) = [] := by kernel_rfl
def madrigalref17_Share_l2.J (k : Nat) (X : Type) : Contract X := fun c s => (pt madrigalref17_Share_l2.sk madrigalref17_Share_l2.cv s).bind fun d => (madrigalref17_Share_l2 k k d).bind fun o => madrigalref17_Share_l2.exK X o c
theorem madrigalref17_Share_l2.run (k : Nat) (n : Nat) (d : (Int × Int × Int × Int × List Int × List Int × List Int)) : evC (madrigalref17_Share_l2.ctx k (Int × List Int × List Int × List Int)) (loopB 2 madrigalref17_Share.code) (backK (fun s => (pt madrigalref17_Share_l2.sk madrigalref17_Share_l2.cv s).bind (madrigalref17_Share_l2 k n)) madrigalref17_Share_l2.exits) (fiS madrigalref17_Share_l2.sk (madrigalref17_Share_l2.un d)) = madrigalref17_Share_l2 k (n + 1) d := by
  obtain ⟨total, all, left, i, widths, loud, l⟩ := d; kernel_rfl
theorem madrigalref17_Share_l2.ok (k : Nat) (X : Type) : CodeOk Try.prog 2 (.block 2 (.loop (loopB 2 madrigalref17_Share.code))) (madrigalref17_Share_l2.J k X) :=
  loop_mk (c := madrigalref17_Share_l2.ctx k) (ctx_ok (madrigalref17_Share.rows k) _ _) rfl hm0 (fits_of (madrigalref17_Share_l2.fits k) (fits_nil)) rfl madrigalref17_Share_l2.hcv madrigalref17_Share_l2.hex (fun _ => rfl) (madrigalref17_Share_l2.run k) (exK := madrigalref17_Share_l2.exK) (by intro X o k; rcases o with ⟨left, widths, loud, l⟩ <;> rfl) k X
def madrigalref17_Share_l6.sk : Sk := { nt := 106, n0 := 2, slots := [(1, .whole 0), (2, .whole 1), (9, .whole 2), (10, .int .i64), (12, .int .i64), (13, .int .i64)], blocks := [(.ints .i64, .ro), (.ints .i64, .ro), (.ints .i64, .own)] }
def madrigalref17_Share_l6.cv : List Lf → Option (Int × Int × Int × List Int × List Int × List Int)
  | [.i left, .i w, .i i, .li widths, .li loud, .li l] => some (left, w, i, widths, loud, l)
  | _ => none
def madrigalref17_Share_l6.un : (Int × Int × Int × List Int × List Int × List Int) → List Lf
  | (left, w, i, widths, loud, l) => [.i left, .i w, .i i, .li widths, .li loud, .li l]
theorem madrigalref17_Share_l6.hcv : ∀ ls d, madrigalref17_Share_l6.cv ls = some d → ls = madrigalref17_Share_l6.un d := by
  intro ls d h; unfold madrigalref17_Share_l6.cv at h; split at h <;> first | (cases h; rfl) | cases h
def madrigalref17_Share_l6.x0 : Sk := { nt := 106, n0 := 2, slots := [(1, .whole 0), (2, .whole 1), (9, .whole 2), (10, .int .i64), (12, .int .i64)], blocks := [(.ints .i64, .ro), (.ints .i64, .ro), (.ints .i64, .own)] }
def madrigalref17_Share_l6.y0 : List Lf → Option (Int × Int × List Int × List Int × List Int)
  | [.i left, .i w, .li widths, .li loud, .li l] => some (left, w, widths, loud, l)
  | _ => none
def madrigalref17_Share_l6.exits : List (Nat × Sk × (List Lf → Option (Int × Int × List Int × List Int × List Int))) := [(8, madrigalref17_Share_l6.x0, madrigalref17_Share_l6.y0)]
def madrigalref17_Share_l6.ex : (Int × Int × List Int × List Int × List Int) → Nat × Sk × List Lf
  | (left, w, widths, loud, l) => (8, madrigalref17_Share_l6.x0, [.i left, .i w, .li widths, .li loud, .li l])
def madrigalref17_Share_l6.exK (X : Type) (o : (Int × Int × List Int × List Int × List Int)) (k : Exit → St → Option X) : Option X :=
  match o with
  | (left, w, widths, loud, l) => k .normal (fiS madrigalref17_Share_l6.x0 [.i left, .i w, .li widths, .li loud, .li l])
theorem madrigalref17_Share_l6.hex : ExOk 2 madrigalref17_Share_l6.exits madrigalref17_Share_l6.ex :=
  exOk_cons rfl (by intro ls o h; unfold madrigalref17_Share_l6.y0 at h; split at h <;> first | (cases h; rfl) | cases h) (exOk_nil)
noncomputable def madrigalref17_Share_l6.ctx (k : Nat) (X : Type) : Ctx X := mkCtx Try.prog (madrigalref17_Share.T k) [(2, madrigalref17_Share_l2.J k), (0, madrigalref17_Share_l0.J k)] [] X
theorem madrigalref17_Share_l6.fits (k : Nat) : fitsL (madrigalref17_Share_l6.ctx k (Int × Int × List Int × List Int × List Int)) (loopB 6 madrigalref17_Share.code) = [] := by kernel_rfl
def madrigalref17_Share_l6.J (k : Nat) (X : Type) : Contract X := fun c s => (pt madrigalref17_Share_l6.sk madrigalref17_Share_l6.cv s).bind fun d => (madrigalref17_Share_l6 k k d).bind fun o => madrigalref17_Share_l6.exK X o c
theorem madrigalref17_Share_l6.run (k : Nat) (n : Nat) (d : (Int × Int × Int × List Int × List Int × List Int)) : evC (madrigalref17_Share_l6.ctx k (Int × Int × List Int × List Int × List Int)) (loopB 6 madrigalref17_Share.code) (backK (fun s => (pt madrigalref17_Share_l6.sk madrigalref17_Share_l6.cv s).bind (madrigalref17_Share_l6 k n)) madrigalref17_Share_l6.exits) (fiS madrigalref17_Share_l6.sk (madrigalref17_Share_l6.un d)) = madrigalref17_Share_l6 k (n + 1) d := by
  obtain ⟨left, w, i, widths, loud, l⟩ := d; kernel_rfl
theorem madrigalref17_Share_l6.ok (k : Nat) (X : Type) : CodeOk Try.prog 2 (.block 6 (.loop (loopB 6 madrigalref17_Share.code))) (madrigalref17_Share_l6.J k X) :=
  loop_mk (c := madrigalref17_Share_l6.ctx k) (ctx_ok (madrigalref17_Share.rows k) _ _) rfl hm0 (fits_of (madrigalref17_Share_l6.fits k) (fits_nil)) rfl madrigalref17_Share_l6.hcv madrigalref17_Share_l6.hex (fun _ => rfl) (madrigalref17_Share_l6.run k) (exK := madrigalref17_Share_l6.exK) (by intro X o k; rcases o with ⟨left, w, widths, loud, l⟩ <;> rfl) k X
def madrigalref17_Share_l4.sk : Sk := { nt := 106, n0 := 2, slots := [(1, .whole 0), (2, .whole 1), (9, .whole 2), (10, .int .i64)], blocks := [(.ints .i64, .ro), (.ints .i64, .ro), (.ints .i64, .own)] }
def madrigalref17_Share_l4.cv : List Lf → Option (Int × List Int × List Int × List Int)
  | [.i left, .li widths, .li loud, .li l] => some (left, widths, loud, l)
  | _ => none
def madrigalref17_Share_l4.un : (Int × List Int × List Int × List Int) → List Lf
  | (left, widths, loud, l) => [.i left, .li widths, .li loud, .li l]
theorem madrigalref17_Share_l4.hcv : ∀ ls d, madrigalref17_Share_l4.cv ls = some d → ls = madrigalref17_Share_l4.un d := by
  intro ls d h; unfold madrigalref17_Share_l4.cv at h; split at h <;> first | (cases h; rfl) | cases h
def madrigalref17_Share_l4.x0 : Sk := { nt := 106, n0 := 2, slots := [(9, .whole 2)], blocks := [(.ints .i64, .ro), (.ints .i64, .ro), (.ints .i64, .own)] }
def madrigalref17_Share_l4.y0 : List Lf → Option (List Int × List Int × List Int)
  | [.li b0, .li b1, .li l] => some (b0, b1, l)
  | _ => none
def madrigalref17_Share_l4.exits : List (Nat × Sk × (List Lf → Option (List Int × List Int × List Int))) := [(6, madrigalref17_Share_l4.x0, madrigalref17_Share_l4.y0)]
def madrigalref17_Share_l4.ex : (List Int × List Int × List Int) → Nat × Sk × List Lf
  | (b0, b1, l) => (6, madrigalref17_Share_l4.x0, [.li b0, .li b1, .li l])
def madrigalref17_Share_l4.exK (X : Type) (o : (List Int × List Int × List Int)) (k : Exit → St → Option X) : Option X :=
  match o with
  | (b0, b1, l) => k .normal (fiS madrigalref17_Share_l4.x0 [.li b0, .li b1, .li l])
theorem madrigalref17_Share_l4.hex : ExOk 2 madrigalref17_Share_l4.exits madrigalref17_Share_l4.ex :=
  exOk_cons rfl (by intro ls o h; unfold madrigalref17_Share_l4.y0 at h; split at h <;> first | (cases h; rfl) | cases h) (exOk_nil)
noncomputable def madrigalref17_Share_l4.ctx (k : Nat) (X : Type) : Ctx X := mkCtx Try.prog (madrigalref17_Share.T k) [(6, madrigalref17_Share_l6.J k), (2, madrigalref17_Share_l2.J k), (0, madrigalref17_Share_l0.J k)] [] X
theorem madrigalref17_Share_l4.fits (k : Nat) : fitsL (madrigalref17_Share_l4.ctx k (List Int × List Int × List Int)) (loopB 4 madrigalref17_Share.code) = [(.block 6 (.loop (loopB 6 madrigalref17_Share.code)), madrigalref17_Share_l6.J k (List Int × List Int × List Int))] := by kernel_rfl
def madrigalref17_Share_l4.J (k : Nat) (X : Type) : Contract X := fun c s => (pt madrigalref17_Share_l4.sk madrigalref17_Share_l4.cv s).bind fun d => (madrigalref17_Share_l4 k k d).bind fun o => madrigalref17_Share_l4.exK X o c
theorem madrigalref17_Share_l4.run (k : Nat) (n : Nat) (d : (Int × List Int × List Int × List Int)) : evC (madrigalref17_Share_l4.ctx k (List Int × List Int × List Int)) (loopB 4 madrigalref17_Share.code) (backK (fun s => (pt madrigalref17_Share_l4.sk madrigalref17_Share_l4.cv s).bind (madrigalref17_Share_l4 k n)) madrigalref17_Share_l4.exits) (fiS madrigalref17_Share_l4.sk (madrigalref17_Share_l4.un d)) = madrigalref17_Share_l4 k (n + 1) d := by
  obtain ⟨left, widths, loud, l⟩ := d; kernel_rfl
theorem madrigalref17_Share_l4.ok (k : Nat) (X : Type) : CodeOk Try.prog 2 (.block 4 (.loop (loopB 4 madrigalref17_Share.code))) (madrigalref17_Share_l4.J k X) :=
  loop_mk (c := madrigalref17_Share_l4.ctx k) (ctx_ok (madrigalref17_Share.rows k) _ _) rfl hm0 (fits_of (madrigalref17_Share_l4.fits k) (fits_cons (madrigalref17_Share_l6.ok k _) (fits_nil))) rfl madrigalref17_Share_l4.hcv madrigalref17_Share_l4.hex (fun _ => rfl) (madrigalref17_Share_l4.run k) (exK := madrigalref17_Share_l4.exK) (by intro X o k; rcases o with ⟨b0, b1, l⟩ <;> rfl) k X
def madrigalref17_Share.ps : List SV := [.int .i64, .whole 0, .whole 1]
def madrigalref17_Share.bs : List (SB × Md) := [(.ints .i64, .ro), (.ints .i64, .ro)]
def madrigalref17_Share.cv : List Lf → Option (Int × List Int × List Int)
  | [.i total, .li widths, .li loud] => some (total, widths, loud)
  | _ => none
def madrigalref17_Share.un : (Int × List Int × List Int) → List Lf
  | (total, widths, loud) => [.i total, .li widths, .li loud]
theorem madrigalref17_Share.hcv : ∀ ls d, madrigalref17_Share.cv ls = some d → ls = madrigalref17_Share.un d := by
  intro ls d h; unfold madrigalref17_Share.cv at h; split at h <;> first | (cases h; rfl) | cases h
def madrigalref17_Share.r0 : Sk := { nt := 1, n0 := 2, slots := [(0, .whole 2)], blocks := [(.ints .i64, .ro), (.ints .i64, .ro), (.ints .i64, .own)] }
def madrigalref17_Share.z0 : List Lf → Option (List Int × List Int × List Int)
  | [.li b0, .li b1, .li r] => some (b0, b1, r)
  | _ => none
def madrigalref17_Share.fins : List (Sk × (List Lf → Option (List Int × List Int × List Int))) := [(madrigalref17_Share.r0, madrigalref17_Share.z0)]
def madrigalref17_Share.fx : (List Int × List Int × List Int) → Sk × List Lf
  | (b0, b1, r) => (madrigalref17_Share.r0, [.li b0, .li b1, .li r])
def madrigalref17_Share.outK (X : Type) (o : (List Int × List Int × List Int)) (k : AV → Heap → Option X) : Option X :=
  match o with
  | (b0, b1, r) => k (tget (fiS madrigalref17_Share.r0 [.li b0, .li b1, .li r]).tmps 0) (fiS madrigalref17_Share.r0 [.li b0, .li b1, .li r]).heap
theorem madrigalref17_Share.hfx : FinOk 2 madrigalref17_Share.fins madrigalref17_Share.fx :=
  finOk_cons rfl rfl (by intro ls o h; unfold madrigalref17_Share.z0 at h; split at h <;> first | (cases h; rfl) | cases h) (finOk_nil)
def madrigalref17_Share.g (k : Nat) : (Int × List Int × List Int) → Option (List Int × List Int × List Int)
  | (total, widths, loud) => madrigalref17_Share k total widths loud
def madrigalref17_Share.J (k : Nat) : FC := fun X => callF madrigalref17_Share.ps madrigalref17_Share.bs (fun ls => (madrigalref17_Share.cv ls).bind (madrigalref17_Share.g k)) (madrigalref17_Share.outK X)
noncomputable def madrigalref17_Share.ctx (k : Nat) (X : Type) : Ctx X := mkCtx Try.prog (madrigalref17_Share.T k) [(4, madrigalref17_Share_l4.J k), (6, madrigalref17_Share_l6.J k), (2, madrigalref17_Share_l2.J k), (0, madrigalref17_Share_l0.J k)] [] X
theorem madrigalref17_Share.fits (k : Nat) : fitsL (madrigalref17_Share.ctx k (List Int × List Int × List Int)) (bodyOf Try.f21) = [(.block 0 (.loop (loopB 0 madrigalref17_Share.code)), madrigalref17_Share_l0.J k (List Int × List Int × List Int)), (.block 2 (.loop (loopB 2 madrigalref17_Share.code)), madrigalref17_Share_l2.J k (List Int × List Int × List Int)), (.block 4 (.loop (loopB 4 madrigalref17_Share.code)), madrigalref17_Share_l4.J k (List Int × List Int × List Int))] := by kernel_rfl
theorem madrigalref17_Share.run (k : Nat) (d : (Int × List Int × List Int)) : evC (madrigalref17_Share.ctx k (List Int × List Int × List Int)) (bodyOf Try.f21) (funcK Try.prog Try.f21.results.toList madrigalref17_Share.fins) (fiA Try.f21.ntmps madrigalref17_Share.ps madrigalref17_Share.bs (madrigalref17_Share.un d)) = madrigalref17_Share.g k d := by
  obtain ⟨total, widths, loud⟩ := d; kernel_rfl
theorem madrigalref17_Share.ok (k : Nat) : CallOk Try.prog 21 (madrigalref17_Share.J k) :=
  func_mk (P := Try.prog) (n0 := 2) (ps := madrigalref17_Share.ps) (bs := madrigalref17_Share.bs) (fins := madrigalref17_Share.fins) (fx := madrigalref17_Share.fx) (g := (madrigalref17_Share.g k)) (cv := madrigalref17_Share.cv) (un := madrigalref17_Share.un) (c := madrigalref17_Share.ctx k) (ctx_ok (madrigalref17_Share.rows k) _ _) rfl hm0 Try.func21 (by kernel_rfl) (by kernel_rfl) rfl (fits_of (madrigalref17_Share.fits k) (fits_cons (madrigalref17_Share_l0.ok k _) (fits_cons (madrigalref17_Share_l2.ok k _) (fits_cons (madrigalref17_Share_l4.ok k _) (fits_nil))))) (Nat.le_of_ble_eq_true (by kernel_rfl)) madrigalref17_Share.hcv madrigalref17_Share.hfx (madrigalref17_Share.run k) (outK := madrigalref17_Share.outK) (by intro X o k; rcases o with ⟨b0, b1, r⟩ <;> rfl)

-- madrigal/madrigallaw18.AllocShares
def madrigallaw18_AllocShares_l0 (k : Nat) : Nat → (Int × Int × Int × Int × List Int × List Int × List Int) → Option (Int × Int × Int × List Int × List Int × List Int) := itN fun rec d => match d with
  | (total, e, sum, i, widths, loud, l) =>
    br (decide (i < (((l.length) : Nat) : Int))) (
      need (0 ≤ i ∧ i < (((l.length) : Nat) : Int)) <|
      rec (total, e, IntKind.i64.wrap (sum + (l.getD (i.toNat) 0)), IntKind.i64.wrap (i + 1), widths, loud, l))
    (
      some (total, e, sum, widths, loud, l))
def madrigallaw18_AllocShares (k : Nat) (total : Int) (widths : List Int) (loud : List Int) : Option (Bool × List Int × List Int) :=
  (madrigallaw18_awake k).bind fun t11 =>
  br (!t11) (
    some (false, widths, loud))
  (
    br (decide (100 < (((widths.length) : Nat) : Int))) (
      some (true, widths, loud))
    (
      br (decide (100 < (((loud.length) : Nat) : Int))) (
        some (true, widths, loud))
      (
        need ((([] ++ widths).length) * 8 ≤ 140737488355328) <|
        need ((([] ++ loud).length) * 8 ≤ 140737488355328) <|
        (alloc_Share k total ([] ++ widths) ([] ++ loud)).bind fun (t29_1, b0, b1, t29_0) =>
        (madrigallaw18_may k total widths loud).bind fun (t35, b0_1, b1_1) =>
        br (!t35) (
          br (decide (t29_1 = 1)) (
            some (decide ((((t29_0.length) : Nat) : Int) = 0), widths, loud))
          (
            some (false, widths, loud)))
        (
          (madrigallaw18_AllocShares_l0 k k (total, t29_1, 0, 0, widths, loud, t29_0)).bind fun (total1, e, sum, widths1, loud1, l) =>
          br (decide (e = 0)) (
            (madrigalref17_Share k total1 widths1 loud1).bind fun (b0_2, b1_2, t63) =>
            (madrigallaw18_ints k l t63).bind fun (t64, b0_3, b1_3) =>
            br t64 (
              br (decide (sum = total1)) (
                some (true, widths1, loud1))
              (
                some (decide ((((widths1.length) : Nat) : Int) = 0), widths1, loud1)))
            (
              some (false, widths1, loud1)))
          (
            some (false, widths1, loud1))))))
noncomputable def madrigallaw18_AllocShares.code : Code := bodyOf Try.f4
noncomputable def madrigallaw18_AllocShares.T (k : Nat) : List Row := [⟨14, madrigallaw18_awake.ps, madrigallaw18_awake.bs, madrigallaw18_awake.J k⟩, ⟨15, alloc_Share.ps, alloc_Share.bs, alloc_Share.J k⟩, ⟨19, madrigallaw18_may.ps, madrigallaw18_may.bs, madrigallaw18_may.J k⟩, ⟨21, madrigalref17_Share.ps, madrigalref17_Share.bs, madrigalref17_Share.J k⟩, ⟨20, madrigallaw18_ints.ps, madrigallaw18_ints.bs, madrigallaw18_ints.J k⟩]
theorem madrigallaw18_AllocShares.rows (k : Nat) : RowsOk Try.prog (madrigallaw18_AllocShares.T k) := rows_cons (madrigallaw18_awake.ok k) (rows_cons (alloc_Share.ok k) (rows_cons (madrigallaw18_may.ok k) (rows_cons (madrigalref17_Share.ok k) (rows_cons (madrigallaw18_ints.ok k) (rows_nil _)))))
def madrigallaw18_AllocShares_l0.sk : Sk := { nt := 76, n0 := 2, slots := [(0, .int .i64), (1, .whole 0), (2, .whole 1), (7, .whole 2), (8, .int .i64), (9, .int .i64), (10, .int .i64)], blocks := [(.ints .i64, .ro), (.ints .i64, .ro), (.ints .i64, .own)] }
def madrigallaw18_AllocShares_l0.cv : List Lf → Option (Int × Int × Int × Int × List Int × List Int × List Int)
  | [.i total, .i e, .i sum, .i i, .li widths, .li loud, .li l] => some (total, e, sum, i, widths, loud, l)
  | _ => none
def madrigallaw18_AllocShares_l0.un : (Int × Int × Int × Int × List Int × List Int × List Int) → List Lf
  | (total, e, sum, i, widths, loud, l) => [.i total, .i e, .i sum, .i i, .li widths, .li loud, .li l]
theorem madrigallaw18_AllocShares_l0.hcv : ∀ ls d, madrigallaw18_AllocShares_l0.cv ls = some d → ls = madrigallaw18_AllocShares_l0.un d := by
  intro ls d h; unfold madrigallaw18_AllocShares_l0.cv at h; split at h <;> first | (cases h; rfl) | cases h
def madrigallaw18_AllocShares_l0.x0 : Sk := { nt := 76, n0 := 2, slots := [(0, .int .i64), (1, .whole 0), (2, .whole 1), (7, .whole 2), (8, .int .i64), (9, .int .i64)], blocks := [(.ints .i64, .ro), (.ints .i64, .ro), (.ints .i64, .own)] }
def madrigallaw18_AllocShares_l0.y0 : List Lf → Option (Int × Int × Int × List Int × List Int × List Int)
  | [.i total, .i e, .i sum, .li widths, .li loud, .li l] => some (total, e, sum, widths, loud, l)
  | _ => none
def madrigallaw18_AllocShares_l0.exits : List (Nat × Sk × (List Lf → Option (Int × Int × Int × List Int × List Int × List Int))) := [(2, madrigallaw18_AllocShares_l0.x0, madrigallaw18_AllocShares_l0.y0)]
def madrigallaw18_AllocShares_l0.ex : (Int × Int × Int × List Int × List Int × List Int) → Nat × Sk × List Lf
  | (total, e, sum, widths, loud, l) => (2, madrigallaw18_AllocShares_l0.x0, [.i total, .i e, .i sum, .li widths, .li loud, .li l])
def madrigallaw18_AllocShares_l0.exK (X : Type) (o : (Int × Int × Int × List Int × List Int × List Int)) (k : Exit → St → Option X) : Option X :=
  match o with
  | (total, e, sum, widths, loud, l) => k .normal (fiS madrigallaw18_AllocShares_l0.x0 [.i total, .i e, .i sum, .li widths, .li loud, .li l])
theorem madrigallaw18_AllocShares_l0.hex : ExOk 2 madrigallaw18_AllocShares_l0.exits madrigallaw18_AllocShares_l0.ex :=
  exOk_cons rfl (by intro ls o h; unfold madrigallaw18_AllocShares_l0.y0 at h; split at h <;> first | (cases h; rfl) | cases h) (exOk_nil)
noncomputable def madrigallaw18_AllocShares_l0.ctx (k : Nat) (X : Type) : Ctx X := mkCtx Try.prog (madrigallaw18_AllocShares.T k) [] [] X
theorem madrigallaw18_AllocShares_l0.fits (k : Nat) : fitsL (madrigallaw18_AllocShares_l0.ctx k (Int × Int × Int × List Int × List Int × List Int)) (loopB 0 madrigallaw18_AllocShares.code) = [] := by kernel_rfl
def madrigallaw18_AllocShares_l0.J (k : Nat) (X : Type) : Contract X := fun c s => (pt madrigallaw18_AllocShares_l0.sk madrigallaw18_AllocShares_l0.cv s).bind fun d => (madrigallaw18_AllocShares_l0 k k d).bind fun o => madrigallaw18_AllocShares_l0.exK X o c
theorem madrigallaw18_AllocShares_l0.run (k : Nat) (n : Nat) (d : (Int × Int × Int × Int × List Int × List Int × List Int)) : evC (madrigallaw18_AllocShares_l0.ctx k (Int × Int × Int × List Int × List Int × List Int)) (loopB 0 madrigallaw18_AllocShares.code) (backK (fun s => (pt madrigallaw18_AllocShares_l0.sk madrigallaw18_AllocShares_l0.cv s).bind (madrigallaw18_AllocShares_l0 k n)) madrigallaw18_AllocShares_l0.exits) (fiS madrigallaw18_AllocShares_l0.sk (madrigallaw18_AllocShares_l0.un d)) = madrigallaw18_AllocShares_l0 k (n + 1) d := by
  obtain ⟨total, e, sum, i, widths, loud, l⟩ := d; kernel_rfl
theorem madrigallaw18_AllocShares_l0.ok (k : Nat) (X : Type) : CodeOk Try.prog 2 (.block 0 (.loop (loopB 0 madrigallaw18_AllocShares.code))) (madrigallaw18_AllocShares_l0.J k X) :=
  loop_mk (c := madrigallaw18_AllocShares_l0.ctx k) (ctx_ok (madrigallaw18_AllocShares.rows k) _ _) rfl hm0 (fits_of (madrigallaw18_AllocShares_l0.fits k) (fits_nil)) rfl madrigallaw18_AllocShares_l0.hcv madrigallaw18_AllocShares_l0.hex (fun _ => rfl) (madrigallaw18_AllocShares_l0.run k) (exK := madrigallaw18_AllocShares_l0.exK) (by intro X o k; rcases o with ⟨total, e, sum, widths, loud, l⟩ <;> rfl) k X
def madrigallaw18_AllocShares.ps : List SV := [.int .i64, .whole 0, .whole 1]
def madrigallaw18_AllocShares.bs : List (SB × Md) := [(.ints .i64, .ro), (.ints .i64, .ro)]
def madrigallaw18_AllocShares.cv : List Lf → Option (Int × List Int × List Int)
  | [.i total, .li widths, .li loud] => some (total, widths, loud)
  | _ => none
def madrigallaw18_AllocShares.un : (Int × List Int × List Int) → List Lf
  | (total, widths, loud) => [.i total, .li widths, .li loud]
theorem madrigallaw18_AllocShares.hcv : ∀ ls d, madrigallaw18_AllocShares.cv ls = some d → ls = madrigallaw18_AllocShares.un d := by
  intro ls d h; unfold madrigallaw18_AllocShares.cv at h; split at h <;> first | (cases h; rfl) | cases h
def madrigallaw18_AllocShares.r0 : Sk := { nt := 1, n0 := 2, slots := [(0, .bool)], blocks := [(.ints .i64, .ro), (.ints .i64, .ro)] }
def madrigallaw18_AllocShares.z0 : List Lf → Option (Bool × List Int × List Int)
  | [.b r, .li b0, .li b1] => some (r, b0, b1)
  | _ => none
def madrigallaw18_AllocShares.fins : List (Sk × (List Lf → Option (Bool × List Int × List Int))) := [(madrigallaw18_AllocShares.r0, madrigallaw18_AllocShares.z0)]
def madrigallaw18_AllocShares.fx : (Bool × List Int × List Int) → Sk × List Lf
  | (r, b0, b1) => (madrigallaw18_AllocShares.r0, [.b r, .li b0, .li b1])
def madrigallaw18_AllocShares.outK (X : Type) (o : (Bool × List Int × List Int)) (k : AV → Heap → Option X) : Option X :=
  match o with
  | (r, b0, b1) => k (tget (fiS madrigallaw18_AllocShares.r0 [.b r, .li b0, .li b1]).tmps 0) (fiS madrigallaw18_AllocShares.r0 [.b r, .li b0, .li b1]).heap
theorem madrigallaw18_AllocShares.hfx : FinOk 2 madrigallaw18_AllocShares.fins madrigallaw18_AllocShares.fx :=
  finOk_cons rfl rfl (by intro ls o h; unfold madrigallaw18_AllocShares.z0 at h; split at h <;> first | (cases h; rfl) | cases h) (finOk_nil)
def madrigallaw18_AllocShares.g (k : Nat) : (Int × List Int × List Int) → Option (Bool × List Int × List Int)
  | (total, widths, loud) => madrigallaw18_AllocShares k total widths loud
def madrigallaw18_AllocShares.J (k : Nat) : FC := fun X => callF madrigallaw18_AllocShares.ps madrigallaw18_AllocShares.bs (fun ls => (madrigallaw18_AllocShares.cv ls).bind (madrigallaw18_AllocShares.g k)) (madrigallaw18_AllocShares.outK X)
noncomputable def madrigallaw18_AllocShares.ctx (k : Nat) (X : Type) : Ctx X := mkCtx Try.prog (madrigallaw18_AllocShares.T k) [(0, madrigallaw18_AllocShares_l0.J k)] [] X
theorem madrigallaw18_AllocShares.fits (k : Nat) : fitsL (madrigallaw18_AllocShares.ctx k (Bool × List Int × List Int)) (bodyOf Try.f4) = [(.block 0 (.loop (loopB 0 madrigallaw18_AllocShares.code)), madrigallaw18_AllocShares_l0.J k (Bool × List Int × List Int))] := by kernel_rfl
theorem madrigallaw18_AllocShares.run (k : Nat) (d : (Int × List Int × List Int)) : evC (madrigallaw18_AllocShares.ctx k (Bool × List Int × List Int)) (bodyOf Try.f4) (funcK Try.prog Try.f4.results.toList madrigallaw18_AllocShares.fins) (fiA Try.f4.ntmps madrigallaw18_AllocShares.ps madrigallaw18_AllocShares.bs (madrigallaw18_AllocShares.un d)) = madrigallaw18_AllocShares.g k d := by
  obtain ⟨total, widths, loud⟩ := d; kernel_rfl
theorem madrigallaw18_AllocShares.ok (k : Nat) : CallOk Try.prog 4 (madrigallaw18_AllocShares.J k) :=
  func_mk (P := Try.prog) (n0 := 2) (ps := madrigallaw18_AllocShares.ps) (bs := madrigallaw18_AllocShares.bs) (fins := madrigallaw18_AllocShares.fins) (fx := madrigallaw18_AllocShares.fx) (g := (madrigallaw18_AllocShares.g k)) (cv := madrigallaw18_AllocShares.cv) (un := madrigallaw18_AllocShares.un) (c := madrigallaw18_AllocShares.ctx k) (ctx_ok (madrigallaw18_AllocShares.rows k) _ _) rfl hm0 Try.func4 (by kernel_rfl) (by kernel_rfl) rfl (fits_of (madrigallaw18_AllocShares.fits k) (fits_cons (madrigallaw18_AllocShares_l0.ok k _) (fits_nil))) (Nat.le_of_ble_eq_true (by kernel_rfl)) madrigallaw18_AllocShares.hcv madrigallaw18_AllocShares.hfx (madrigallaw18_AllocShares.run k) (outK := madrigallaw18_AllocShares.outK) (by intro X o k; rcases o with ⟨r, b0, b1⟩ <;> rfl)

-- madrigal/madrigalref17.Most
def madrigalref17_Most (n : Int) : Option (Int) :=
  br (decide (n < 1)) (
    some 0)
  (
    br (decide (16 < n)) (
      some 0)
    (
      let l0 := [64, 64, 64, 64, 64, 64, 53, 36, 27, 22, 18, 16, 15, 13, 12, 12]
      need (0 ≤ (IntKind.i64.wrap (n - 1)) ∧ (IntKind.i64.wrap (n - 1)) < (((l0.length) : Nat) : Int)) <|
      some (l0.getD ((IntKind.i64.wrap (n - 1)).toNat) 0)))
noncomputable def madrigalref17_Most.code : Code := bodyOf Try.f39
noncomputable def madrigalref17_Most.T (k : Nat) : List Row := []
theorem madrigalref17_Most.rows (k : Nat) : RowsOk Try.prog (madrigalref17_Most.T k) := rows_nil _
def madrigalref17_Most.ps : List SV := [.int .i64]
def madrigalref17_Most.bs : List (SB × Md) := []
def madrigalref17_Most.cv : List Lf → Option (Int)
  | [.i n] => some n
  | _ => none
def madrigalref17_Most.un : (Int) → List Lf
  | n => [.i n]
theorem madrigalref17_Most.hcv : ∀ ls d, madrigalref17_Most.cv ls = some d → ls = madrigalref17_Most.un d := by
  intro ls d h; unfold madrigalref17_Most.cv at h; split at h <;> first | (cases h; rfl) | cases h
def madrigalref17_Most.r0 : Sk := { nt := 1, n0 := 0, slots := [(0, .int .i64)], blocks := [] }
def madrigalref17_Most.z0 : List Lf → Option (Int)
  | [.i r] => some r
  | _ => none
def madrigalref17_Most.fins : List (Sk × (List Lf → Option (Int))) := [(madrigalref17_Most.r0, madrigalref17_Most.z0)]
def madrigalref17_Most.fx : (Int) → Sk × List Lf
  | r => (madrigalref17_Most.r0, [.i r])
def madrigalref17_Most.outK (X : Type) (o : (Int)) (k : AV → Heap → Option X) : Option X :=
  match o with
  | r => k (tget (fiS madrigalref17_Most.r0 [.i r]).tmps 0) (fiS madrigalref17_Most.r0 [.i r]).heap
theorem madrigalref17_Most.hfx : FinOk 0 madrigalref17_Most.fins madrigalref17_Most.fx :=
  finOk_cons rfl rfl (by intro ls o h; unfold madrigalref17_Most.z0 at h; split at h <;> first | (cases h; rfl) | cases h) (finOk_nil)
def madrigalref17_Most.g : (Int) → Option (Int)
  | n => madrigalref17_Most n
def madrigalref17_Most.J : FC := fun X => callF madrigalref17_Most.ps madrigalref17_Most.bs (fun ls => (madrigalref17_Most.cv ls).bind madrigalref17_Most.g) (madrigalref17_Most.outK X)
noncomputable def madrigalref17_Most.ctx (k : Nat) (X : Type) : Ctx X := mkCtx Try.prog (madrigalref17_Most.T k) [] [] X
theorem madrigalref17_Most.fits (k : Nat) : fitsL (madrigalref17_Most.ctx k (Int)) (bodyOf Try.f39) = [] := by kernel_rfl
theorem madrigalref17_Most.run (k : Nat) (d : (Int)) : evC (madrigalref17_Most.ctx k (Int)) (bodyOf Try.f39) (funcK Try.prog Try.f39.results.toList madrigalref17_Most.fins) (fiA Try.f39.ntmps madrigalref17_Most.ps madrigalref17_Most.bs (madrigalref17_Most.un d)) = madrigalref17_Most.g d := by
  kernel_rfl
theorem madrigalref17_Most.ok : CallOk Try.prog 39 (madrigalref17_Most.J) :=
  func_mk (P := Try.prog) (n0 := 0) (ps := madrigalref17_Most.ps) (bs := madrigalref17_Most.bs) (fins := madrigalref17_Most.fins) (fx := madrigalref17_Most.fx) (g := madrigalref17_Most.g) (cv := madrigalref17_Most.cv) (un := madrigalref17_Most.un) (c := madrigalref17_Most.ctx 0) (ctx_ok (madrigalref17_Most.rows 0) _ _) rfl hm0 Try.func39 (by kernel_rfl) (by kernel_rfl) rfl (fits_of (madrigalref17_Most.fits 0) (fits_nil)) (Nat.le_of_ble_eq_true (by kernel_rfl)) madrigalref17_Most.hcv madrigalref17_Most.hfx (madrigalref17_Most.run 0) (outK := madrigalref17_Most.outK) (by intro X o k; rcases o with r <;> rfl)

-- madrigal/madrigalref17.Count
def madrigalref17_Count_l2 (k : Nat) : Nat → (Int × Int × Int × Int × List Int × List Int) → Option (Int × Int × Int × List Int) := itN fun rec d => match d with
  | (n, k_, i, j, row, next) =>
    br (decide (j ≤ k_)) (
      need (0 ≤ j ∧ j < (((row.length) : Nat) : Int)) <|
      need (0 ≤ (IntKind.i64.wrap (j - 1)) ∧ (IntKind.i64.wrap (j - 1)) < (((next.length) : Nat) : Int)) <|
      need (0 ≤ (IntKind.i64.wrap (j - 1)) ∧ (IntKind.i64.wrap (j - 1)) < (((row.length) : Nat) : Int)) <|
      need (0 ≤ j ∧ j < (((next.length) : Nat) : Int)) <|
      let l1 := next.set (j.toNat) (IntKind.i64.wrap ((IntKind.i64.wrap ((row.getD (j.toNat) 0) + (next.getD ((IntKind.i64.wrap (j - 1)).toNat) 0))) + (row.getD ((IntKind.i64.wrap (j - 1)).toNat) 0)))
      need (0 ≤ j ∧ j < (((l1.length) : Nat) : Int)) <|
      br (decide (4294967296 < (l1.getD (j.toNat) 0))) (
        need (0 ≤ j ∧ j < (((l1.length) : Nat) : Int)) <|
        rec (n, k_, i, IntKind.i64.wrap (j + 1), row, l1.set (j.toNat) 4294967296))
      (
        rec (n, k_, i, IntKind.i64.wrap (j + 1), row, l1)))
    (
      some (n, k_, i, next))
def madrigalref17_Count_l0 (k : Nat) : Nat → (Int × Int × Int × List Int) → Option (Int × List Int) := itN fun rec d => match d with
  | (n, k_, i, row) =>
    br (decide (i < n)) (
      need (0 ≤ (IntKind.i64.wrap (k_ + 1)) ∧ (IntKind.i64.wrap (k_ + 1)) = (IntKind.i64.wrap (k_ + 1)) ∧ (8 : Int) * (IntKind.i64.wrap (k_ + 1)) ≤ 281474976710656 ∧ (IntKind.i64.wrap (k_ + 1)) ≤ 9223372036854775807) <|
      let l1 := List.replicate ((IntKind.i64.wrap (k_ + 1)).toNat) 0
      need (0 ≤ (0 : Int) ∧ (0 : Int) < (((l1.length) : Nat) : Int)) <|
      (madrigalref17_Count_l2 k k (n, k_, i, 1, row, l1.set 0 1)).bind fun (n1, k_1, i1, next) =>
      rec (n1, k_1, IntKind.i64.wrap (i1 + 1), next))
    (
      some (k_, row))
def madrigalref17_Count (k : Nat) (n : Int) (k_ : Int) : Option (Int) :=
  br (decide (n < 1)) (
    some 0)
  (
    br (decide (16 < n)) (
      some 0)
    (
      br (decide (k_ < 0)) (
        some 0)
      (
        br (decide (64 < k_)) (
          some 0)
        (
          need (0 ≤ (IntKind.i64.wrap (k_ + 1)) ∧ (IntKind.i64.wrap (k_ + 1)) = (IntKind.i64.wrap (k_ + 1)) ∧ (8 : Int) * (IntKind.i64.wrap (k_ + 1)) ≤ 281474976710656 ∧ (IntKind.i64.wrap (k_ + 1)) ≤ 9223372036854775807) <|
          let l0 := List.replicate ((IntKind.i64.wrap (k_ + 1)).toNat) 0
          need (0 ≤ (0 : Int) ∧ (0 : Int) < (((l0.length) : Nat) : Int)) <|
          (madrigalref17_Count_l0 k k (n, k_, 0, l0.set 0 1)).bind fun (k_1, row) =>
          need (0 ≤ k_1 ∧ k_1 < (((row.length) : Nat) : Int)) <|
          some (row.getD (k_1.toNat) 0)))))
noncomputable def madrigalref17_Count.code : Code := bodyOf Try.f26
noncomputable def madrigalref17_Count.T (k : Nat) : List Row := []
theorem madrigalref17_Count.rows (k : Nat) : RowsOk Try.prog (madrigalref17_Count.T k) := rows_nil _
def madrigalref17_Count_l2.sk : Sk := { nt := 75, n0 := 0, slots := [(0, .int .i64), (1, .int .i64), (5, .whole 0), (6, .int .i64), (7, .whole 1), (8, .int .i64)], blocks := [(.ints .i64, .own), (.ints .i64, .own)] }
def madrigalref17_Count_l2.cv : List Lf → Option (Int × Int × Int × Int × List Int × List Int)
  | [.i n, .i k_, .i i, .i j, .li row, .li next] => some (n, k_, i, j, row, next)
  | _ => none
def madrigalref17_Count_l2.un : (Int × Int × Int × Int × List Int × List Int) → List Lf
  | (n, k_, i, j, row, next) => [.i n, .i k_, .i i, .i j, .li row, .li next]
theorem madrigalref17_Count_l2.hcv : ∀ ls d, madrigalref17_Count_l2.cv ls = some d → ls = madrigalref17_Count_l2.un d := by
  intro ls d h; unfold madrigalref17_Count_l2.cv at h; split at h <;> first | (cases h; rfl) | cases h
def madrigalref17_Count_l2.x0 : Sk := { nt := 75, n0 := 0, slots := [(0, .int .i64), (1, .int .i64), (6, .int .i64), (7, .whole 0)], blocks := [(.ints .i64, .own)] }
def madrigalref17_Count_l2.y0 : List Lf → Option (Int × Int × Int × List Int)
  | [.i n, .i k_, .i i, .li next] => some (n, k_, i, next)
  | _ => none
def madrigalref17_Count_l2.exits : List (Nat × Sk × (List Lf → Option (Int × Int × Int × List Int))) := [(4, madrigalref17_Count_l2.x0, madrigalref17_Count_l2.y0)]
def madrigalref17_Count_l2.ex : (Int × Int × Int × List Int) → Nat × Sk × List Lf
  | (n, k_, i, next) => (4, madrigalref17_Count_l2.x0, [.i n, .i k_, .i i, .li next])
def madrigalref17_Count_l2.exK (X : Type) (o : (Int × Int × Int × List Int)) (k : Exit → St → Option X) : Option X :=
  match o with
  | (n, k_, i, next) => k .normal (fiS madrigalref17_Count_l2.x0 [.i n, .i k_, .i i, .li next])
theorem madrigalref17_Count_l2.hex : ExOk 0 madrigalref17_Count_l2.exits madrigalref17_Count_l2.ex :=
  exOk_cons rfl (by intro ls o h; unfold madrigalref17_Count_l2.y0 at h; split at h <;> first | (cases h; rfl) | cases h) (exOk_nil)
noncomputable def madrigalref17_Count_l2.ctx (k : Nat) (X : Type) : Ctx X := mkCtx Try.prog (madrigalref17_Count.T k) [] [] X
theorem madrigalref17_Count_l2.fits (k : Nat) : fitsL (madrigalref17_Count_l2.ctx k (Int × Int × Int × List Int)) (loopB 2 madrigalref17_Count.code) = [] := by kernel_rfl
def madrigalref17_Count_l2.J (k : Nat) (X : Type) : Contract X := fun c s => (pt madrigalref17_Count_l2.sk madrigalref17_Count_l2.cv s).bind fun d => (madrigalref17_Count_l2 k k d).bind fun o => madrigalref17_Count_l2.exK X o c
theorem madrigalref17_Count_l2.run (k : Nat) (n : Nat) (d : (Int × Int × Int × Int × List Int × List Int)) : evC (madrigalref17_Count_l2.ctx k (Int × Int × Int × List Int)) (loopB 2 madrigalref17_Count.code) (backK (fun s => (pt madrigalref17_Count_l2.sk madrigalref17_Count_l2.cv s).bind (madrigalref17_Count_l2 k n)) madrigalref17_Count_l2.exits) (fiS madrigalref17_Count_l2.sk (madrigalref17_Count_l2.un d)) = madrigalref17_Count_l2 k (n + 1) d := by
  obtain ⟨n, k_, i, j, row, next⟩ := d; kernel_rfl
theorem madrigalref17_Count_l2.ok (k : Nat) (X : Type) : CodeOk Try.prog 0 (.block 2 (.loop (loopB 2 madrigalref17_Count.code))) (madrigalref17_Count_l2.J k X) :=
  loop_mk (c := madrigalref17_Count_l2.ctx k) (ctx_ok (madrigalref17_Count.rows k) _ _) rfl hm0 (fits_of (madrigalref17_Count_l2.fits k) (fits_nil)) rfl madrigalref17_Count_l2.hcv madrigalref17_Count_l2.hex (fun _ => rfl) (madrigalref17_Count_l2.run k) (exK := madrigalref17_Count_l2.exK) (by intro X o k; rcases o with ⟨n, k_, i, next⟩ <;> rfl) k X
def madrigalref17_Count_l0.sk : Sk := { nt := 75, n0 := 0, slots := [(0, .int .i64), (1, .int .i64), (5, .whole 0), (6, .int .i64)], blocks := [(.ints .i64, .own)] }
def madrigalref17_Count_l0.cv : List Lf → Option (Int × Int × Int × List Int)
  | [.i n, .i k_, .i i, .li row] => some (n, k_, i, row)
  | _ => none
def madrigalref17_Count_l0.un : (Int × Int × Int × List Int) → List Lf
  | (n, k_, i, row) => [.i n, .i k_, .i i, .li row]
theorem madrigalref17_Count_l0.hcv : ∀ ls d, madrigalref17_Count_l0.cv ls = some d → ls = madrigalref17_Count_l0.un d := by
  intro ls d h; unfold madrigalref17_Count_l0.cv at h; split at h <;> first | (cases h; rfl) | cases h
def madrigalref17_Count_l0.x0 : Sk := { nt := 75, n0 := 0, slots := [(1, .int .i64), (5, .whole 0)], blocks := [(.ints .i64, .own)] }
def madrigalref17_Count_l0.y0 : List Lf → Option (Int × List Int)
  | [.i k_, .li row] => some (k_, row)
  | _ => none
def madrigalref17_Count_l0.exits : List (Nat × Sk × (List Lf → Option (Int × List Int))) := [(2, madrigalref17_Count_l0.x0, madrigalref17_Count_l0.y0)]
def madrigalref17_Count_l0.ex : (Int × List Int) → Nat × Sk × List Lf
  | (k_, row) => (2, madrigalref17_Count_l0.x0, [.i k_, .li row])
def madrigalref17_Count_l0.exK (X : Type) (o : (Int × List Int)) (k : Exit → St → Option X) : Option X :=
  match o with
  | (k_, row) => k .normal (fiS madrigalref17_Count_l0.x0 [.i k_, .li row])
theorem madrigalref17_Count_l0.hex : ExOk 0 madrigalref17_Count_l0.exits madrigalref17_Count_l0.ex :=
  exOk_cons rfl (by intro ls o h; unfold madrigalref17_Count_l0.y0 at h; split at h <;> first | (cases h; rfl) | cases h) (exOk_nil)
noncomputable def madrigalref17_Count_l0.ctx (k : Nat) (X : Type) : Ctx X := mkCtx Try.prog (madrigalref17_Count.T k) [(2, madrigalref17_Count_l2.J k)] [] X
theorem madrigalref17_Count_l0.fits (k : Nat) : fitsL (madrigalref17_Count_l0.ctx k (Int × List Int)) (loopB 0 madrigalref17_Count.code) = [(.block 2 (.loop (loopB 2 madrigalref17_Count.code)), madrigalref17_Count_l2.J k (Int × List Int))] := by kernel_rfl
def madrigalref17_Count_l0.J (k : Nat) (X : Type) : Contract X := fun c s => (pt madrigalref17_Count_l0.sk madrigalref17_Count_l0.cv s).bind fun d => (madrigalref17_Count_l0 k k d).bind fun o => madrigalref17_Count_l0.exK X o c
theorem madrigalref17_Count_l0.run (k : Nat) (n : Nat) (d : (Int × Int × Int × List Int)) : evC (madrigalref17_Count_l0.ctx k (Int × List Int)) (loopB 0 madrigalref17_Count.code) (backK (fun s => (pt madrigalref17_Count_l0.sk madrigalref17_Count_l0.cv s).bind (madrigalref17_Count_l0 k n)) madrigalref17_Count_l0.exits) (fiS madrigalref17_Count_l0.sk (madrigalref17_Count_l0.un d)) = madrigalref17_Count_l0 k (n + 1) d := by
  obtain ⟨n, k_, i, row⟩ := d; kernel_rfl
theorem madrigalref17_Count_l0.ok (k : Nat) (X : Type) : CodeOk Try.prog 0 (.block 0 (.loop (loopB 0 madrigalref17_Count.code))) (madrigalref17_Count_l0.J k X) :=
  loop_mk (c := madrigalref17_Count_l0.ctx k) (ctx_ok (madrigalref17_Count.rows k) _ _) rfl hm0 (fits_of (madrigalref17_Count_l0.fits k) (fits_cons (madrigalref17_Count_l2.ok k _) (fits_nil))) rfl madrigalref17_Count_l0.hcv madrigalref17_Count_l0.hex (fun _ => rfl) (madrigalref17_Count_l0.run k) (exK := madrigalref17_Count_l0.exK) (by intro X o k; rcases o with ⟨k_, row⟩ <;> rfl) k X
def madrigalref17_Count.ps : List SV := [.int .i64, .int .i64]
def madrigalref17_Count.bs : List (SB × Md) := []
def madrigalref17_Count.cv : List Lf → Option (Int × Int)
  | [.i n, .i k_] => some (n, k_)
  | _ => none
def madrigalref17_Count.un : (Int × Int) → List Lf
  | (n, k_) => [.i n, .i k_]
theorem madrigalref17_Count.hcv : ∀ ls d, madrigalref17_Count.cv ls = some d → ls = madrigalref17_Count.un d := by
  intro ls d h; unfold madrigalref17_Count.cv at h; split at h <;> first | (cases h; rfl) | cases h
def madrigalref17_Count.r0 : Sk := { nt := 1, n0 := 0, slots := [(0, .int .i64)], blocks := [] }
def madrigalref17_Count.z0 : List Lf → Option (Int)
  | [.i r] => some r
  | _ => none
def madrigalref17_Count.fins : List (Sk × (List Lf → Option (Int))) := [(madrigalref17_Count.r0, madrigalref17_Count.z0)]
def madrigalref17_Count.fx : (Int) → Sk × List Lf
  | r => (madrigalref17_Count.r0, [.i r])
def madrigalref17_Count.outK (X : Type) (o : (Int)) (k : AV → Heap → Option X) : Option X :=
  match o with
  | r => k (tget (fiS madrigalref17_Count.r0 [.i r]).tmps 0) (fiS madrigalref17_Count.r0 [.i r]).heap
theorem madrigalref17_Count.hfx : FinOk 0 madrigalref17_Count.fins madrigalref17_Count.fx :=
  finOk_cons rfl rfl (by intro ls o h; unfold madrigalref17_Count.z0 at h; split at h <;> first | (cases h; rfl) | cases h) (finOk_nil)
def madrigalref17_Count.g (k : Nat) : (Int × Int) → Option (Int)
  | (n, k_) => madrigalref17_Count k n k_
def madrigalref17_Count.J (k : Nat) : FC := fun X => callF madrigalref17_Count.ps madrigalref17_Count.bs (fun ls => (madrigalref17_Count.cv ls).bind (madrigalref17_Count.g k)) (madrigalref17_Count.outK X)
noncomputable def madrigalref17_Count.ctx (k : Nat) (X : Type) : Ctx X := mkCtx Try.prog (madrigalref17_Count.T k) [(0, madrigalref17_Count_l0.J k), (2, madrigalref17_Count_l2.J k)] [] X
theorem madrigalref17_Count.fits (k : Nat) : fitsL (madrigalref17_Count.ctx k (Int)) (bodyOf Try.f26) = [(.block 0 (.loop (loopB 0 madrigalref17_Count.code)), madrigalref17_Count_l0.J k (Int))] := by kernel_rfl
theorem madrigalref17_Count.run (k : Nat) (d : (Int × Int)) : evC (madrigalref17_Count.ctx k (Int)) (bodyOf Try.f26) (funcK Try.prog Try.f26.results.toList madrigalref17_Count.fins) (fiA Try.f26.ntmps madrigalref17_Count.ps madrigalref17_Count.bs (madrigalref17_Count.un d)) = madrigalref17_Count.g k d := by
  obtain ⟨n, k_⟩ := d; kernel_rfl
theorem madrigalref17_Count.ok (k : Nat) : CallOk Try.prog 26 (madrigalref17_Count.J k) :=
  func_mk (P := Try.prog) (n0 := 0) (ps := madrigalref17_Count.ps) (bs := madrigalref17_Count.bs) (fins := madrigalref17_Count.fins) (fx := madrigalref17_Count.fx) (g := (madrigalref17_Count.g k)) (cv := madrigalref17_Count.cv) (un := madrigalref17_Count.un) (c := madrigalref17_Count.ctx k) (ctx_ok (madrigalref17_Count.rows k) _ _) rfl hm0 Try.func26 (by kernel_rfl) (by kernel_rfl) rfl (fits_of (madrigalref17_Count.fits k) (fits_cons (madrigalref17_Count_l0.ok k _) (fits_nil))) (Nat.le_of_ble_eq_true (by kernel_rfl)) madrigalref17_Count.hcv madrigalref17_Count.hfx (madrigalref17_Count.run k) (outK := madrigalref17_Count.outK) (by intro X o k; rcases o with r <;> rfl)

-- madrigal/madrigalref1.Len
def madrigalref1_Len_l0 (k : Nat) : Nat → (Int × Int) → Option (Int) := itN fun rec d => match d with
  | (a, n) =>
    br (decide (0 < a)) (
      rec (IntKind.i64.wrap (a.tdiv 2), IntKind.i64.wrap (n + 1)))
    (
      some n)
def madrigalref1_Len (k : Nat) (a : Int) : Option (Int) :=
  (madrigalref1_Len_l0 k k (a, 0)).bind fun n =>
  some n
noncomputable def madrigalref1_Len.code : Code := bodyOf Try.f25
noncomputable def madrigalref1_Len.T (k : Nat) : List Row := []
theorem madrigalref1_Len.rows (k : Nat) : RowsOk Try.prog (madrigalref1_Len.T k) := rows_nil _
def madrigalref1_Len_l0.sk : Sk := { nt := 11, n0 := 0, slots := [(0, .int .i64), (3, .int .i64)], blocks := [] }
def madrigalref1_Len_l0.cv : List Lf → Option (Int × Int)
  | [.i a, .i n] => some (a, n)
  | _ => none
def madrigalref1_Len_l0.un : (Int × Int) → List Lf
  | (a, n) => [.i a, .i n]
theorem madrigalref1_Len_l0.hcv : ∀ ls d, madrigalref1_Len_l0.cv ls = some d → ls = madrigalref1_Len_l0.un d := by
  intro ls d h; unfold madrigalref1_Len_l0.cv at h; split at h <;> first | (cases h; rfl) | cases h
def madrigalref1_Len_l0.x0 : Sk := { nt := 11, n0 := 0, slots := [(3, .int .i64)], blocks := [] }
def madrigalref1_Len_l0.y0 : List Lf → Option (Int)
  | [.i n] => some n
  | _ => none
def madrigalref1_Len_l0.exits : List (Nat × Sk × (List Lf → Option (Int))) := [(2, madrigalref1_Len_l0.x0, madrigalref1_Len_l0.y0)]
def madrigalref1_Len_l0.ex : (Int) → Nat × Sk × List Lf
  | n => (2, madrigalref1_Len_l0.x0, [.i n])
def madrigalref1_Len_l0.exK (X : Type) (o : (Int)) (k : Exit → St → Option X) : Option X :=
  match o with
  | n => k .normal (fiS madrigalref1_Len_l0.x0 [.i n])
theorem madrigalref1_Len_l0.hex : ExOk 0 madrigalref1_Len_l0.exits madrigalref1_Len_l0.ex :=
  exOk_cons rfl (by intro ls o h; unfold madrigalref1_Len_l0.y0 at h; split at h <;> first | (cases h; rfl) | cases h) (exOk_nil)
noncomputable def madrigalref1_Len_l0.ctx (k : Nat) (X : Type) : Ctx X := mkCtx Try.prog (madrigalref1_Len.T k) [] [] X
theorem madrigalref1_Len_l0.fits (k : Nat) : fitsL (madrigalref1_Len_l0.ctx k (Int)) (loopB 0 madrigalref1_Len.code) = [] := by kernel_rfl
def madrigalref1_Len_l0.J (k : Nat) (X : Type) : Contract X := fun c s => (pt madrigalref1_Len_l0.sk madrigalref1_Len_l0.cv s).bind fun d => (madrigalref1_Len_l0 k k d).bind fun o => madrigalref1_Len_l0.exK X o c
theorem madrigalref1_Len_l0.run (k : Nat) (n : Nat) (d : (Int × Int)) : evC (madrigalref1_Len_l0.ctx k (Int)) (loopB 0 madrigalref1_Len.code) (backK (fun s => (pt madrigalref1_Len_l0.sk madrigalref1_Len_l0.cv s).bind (madrigalref1_Len_l0 k n)) madrigalref1_Len_l0.exits) (fiS madrigalref1_Len_l0.sk (madrigalref1_Len_l0.un d)) = madrigalref1_Len_l0 k (n + 1) d := by
  obtain ⟨a, n⟩ := d; kernel_rfl
theorem madrigalref1_Len_l0.ok (k : Nat) (X : Type) : CodeOk Try.prog 0 (.block 0 (.loop (loopB 0 madrigalref1_Len.code))) (madrigalref1_Len_l0.J k X) :=
  loop_mk (c := madrigalref1_Len_l0.ctx k) (ctx_ok (madrigalref1_Len.rows k) _ _) rfl hm0 (fits_of (madrigalref1_Len_l0.fits k) (fits_nil)) rfl madrigalref1_Len_l0.hcv madrigalref1_Len_l0.hex (fun _ => rfl) (madrigalref1_Len_l0.run k) (exK := madrigalref1_Len_l0.exK) (by intro X o k; rcases o with n <;> rfl) k X
def madrigalref1_Len.ps : List SV := [.int .i64]
def madrigalref1_Len.bs : List (SB × Md) := []
def madrigalref1_Len.cv : List Lf → Option (Int)
  | [.i a] => some a
  | _ => none
def madrigalref1_Len.un : (Int) → List Lf
  | a => [.i a]
theorem madrigalref1_Len.hcv : ∀ ls d, madrigalref1_Len.cv ls = some d → ls = madrigalref1_Len.un d := by
  intro ls d h; unfold madrigalref1_Len.cv at h; split at h <;> first | (cases h; rfl) | cases h
def madrigalref1_Len.r0 : Sk := { nt := 1, n0 := 0, slots := [(0, .int .i64)], blocks := [] }
def madrigalref1_Len.z0 : List Lf → Option (Int)
  | [.i r] => some r
  | _ => none
def madrigalref1_Len.fins : List (Sk × (List Lf → Option (Int))) := [(madrigalref1_Len.r0, madrigalref1_Len.z0)]
def madrigalref1_Len.fx : (Int) → Sk × List Lf
  | r => (madrigalref1_Len.r0, [.i r])
def madrigalref1_Len.outK (X : Type) (o : (Int)) (k : AV → Heap → Option X) : Option X :=
  match o with
  | r => k (tget (fiS madrigalref1_Len.r0 [.i r]).tmps 0) (fiS madrigalref1_Len.r0 [.i r]).heap
theorem madrigalref1_Len.hfx : FinOk 0 madrigalref1_Len.fins madrigalref1_Len.fx :=
  finOk_cons rfl rfl (by intro ls o h; unfold madrigalref1_Len.z0 at h; split at h <;> first | (cases h; rfl) | cases h) (finOk_nil)
def madrigalref1_Len.g (k : Nat) : (Int) → Option (Int)
  | a => madrigalref1_Len k a
def madrigalref1_Len.J (k : Nat) : FC := fun X => callF madrigalref1_Len.ps madrigalref1_Len.bs (fun ls => (madrigalref1_Len.cv ls).bind (madrigalref1_Len.g k)) (madrigalref1_Len.outK X)
noncomputable def madrigalref1_Len.ctx (k : Nat) (X : Type) : Ctx X := mkCtx Try.prog (madrigalref1_Len.T k) [(0, madrigalref1_Len_l0.J k)] [] X
theorem madrigalref1_Len.fits (k : Nat) : fitsL (madrigalref1_Len.ctx k (Int)) (bodyOf Try.f25) = [(.block 0 (.loop (loopB 0 madrigalref1_Len.code)), madrigalref1_Len_l0.J k (Int))] := by kernel_rfl
theorem madrigalref1_Len.run (k : Nat) (d : (Int)) : evC (madrigalref1_Len.ctx k (Int)) (bodyOf Try.f25) (funcK Try.prog Try.f25.results.toList madrigalref1_Len.fins) (fiA Try.f25.ntmps madrigalref1_Len.ps madrigalref1_Len.bs (madrigalref1_Len.un d)) = madrigalref1_Len.g k d := by
  kernel_rfl
theorem madrigalref1_Len.ok (k : Nat) : CallOk Try.prog 25 (madrigalref1_Len.J k) :=
  func_mk (P := Try.prog) (n0 := 0) (ps := madrigalref1_Len.ps) (bs := madrigalref1_Len.bs) (fins := madrigalref1_Len.fins) (fx := madrigalref1_Len.fx) (g := (madrigalref1_Len.g k)) (cv := madrigalref1_Len.cv) (un := madrigalref1_Len.un) (c := madrigalref1_Len.ctx k) (ctx_ok (madrigalref1_Len.rows k) _ _) rfl hm0 Try.func25 (by kernel_rfl) (by kernel_rfl) rfl (fits_of (madrigalref1_Len.fits k) (fits_cons (madrigalref1_Len_l0.ok k _) (fits_nil))) (Nat.le_of_ble_eq_true (by kernel_rfl)) madrigalref1_Len.hcv madrigalref1_Len.hfx (madrigalref1_Len.run k) (outK := madrigalref1_Len.outK) (by intro X o k; rcases o with r <;> rfl)

-- madrigal/madrigalref17.Paid
def madrigalref17_Paid_l0 (k : Nat) : Nat → (Int × Int × Int × Int) → Option (Int) := itN fun rec d => match d with
  | (n, bits, most, k_) =>
    br (decide (k_ < most)) (
      (madrigalref17_Count k n (IntKind.i64.wrap (k_ + 1))).bind fun t24 =>
      (madrigalref1_Len k (IntKind.i64.wrap (t24 - 1))).bind fun t26 =>
      br (decide (t26 ≤ bits)) (
        rec (n, bits, most, IntKind.i64.wrap (k_ + 1)))
      (
        some k_))
    (
      some k_)
def madrigalref17_Paid (k : Nat) (n : Int) (bits : Int) : Option (Int) :=
  br (decide (n < 1)) (
    some 0)
  (
    br (decide (16 < n)) (
      some 0)
    (
      br (decide (bits < 1)) (
        some 0)
      (
        (madrigalref17_Most n).bind fun t16 =>
        (madrigalref17_Paid_l0 k k (n, bits, t16, 0)).bind fun k_ =>
        some k_)))
noncomputable def madrigalref17_Paid.code : Code := bodyOf Try.f22
noncomputable def madrigalref17_Paid.T (k : Nat) : List Row := [⟨39, madrigalref17_Most.ps, madrigalref17_Most.bs, madrigalref17_Most.J⟩, ⟨26, madrigalref17_Count.ps, madrigalref17_Count.bs, madrigalref17_Count.J k⟩, ⟨25, madrigalref1_Len.ps, madrigalref1_Len.bs, madrigalref1_Len.J k⟩]
theorem madrigalref17_Paid.rows (k : Nat) : RowsOk Try.prog (madrigalref17_Paid.T k) := rows_cons (madrigalref17_Most.ok) (rows_cons (madrigalref17_Count.ok k) (rows_cons (madrigalref1_Len.ok k) (rows_nil _)))
def madrigalref17_Paid_l0.sk : Sk := { nt := 33, n0 := 0, slots := [(0, .int .i64), (1, .int .i64), (5, .int .i64), (6, .int .i64)], blocks := [] }
def madrigalref17_Paid_l0.cv : List Lf → Option (Int × Int × Int × Int)
  | [.i n, .i bits, .i most, .i k_] => some (n, bits, most, k_)
  | _ => none
def madrigalref17_Paid_l0.un : (Int × Int × Int × Int) → List Lf
  | (n, bits, most, k_) => [.i n, .i bits, .i most, .i k_]
theorem madrigalref17_Paid_l0.hcv : ∀ ls d, madrigalref17_Paid_l0.cv ls = some d → ls = madrigalref17_Paid_l0.un d := by
  intro ls d h; unfold madrigalref17_Paid_l0.cv at h; split at h <;> first | (cases h; rfl) | cases h
def madrigalref17_Paid_l0.x0 : Sk := { nt := 33, n0 := 0, slots := [(6, .int .i64)], blocks := [] }
def madrigalref17_Paid_l0.y0 : List Lf → Option (Int)
  | [.i k_] => some k_
  | _ => none
def madrigalref17_Paid_l0.exits : List (Nat × Sk × (List Lf → Option (Int))) := [(2, madrigalref17_Paid_l0.x0, madrigalref17_Paid_l0.y0)]
def madrigalref17_Paid_l0.ex : (Int) → Nat × Sk × List Lf
  | k_ => (2, madrigalref17_Paid_l0.x0, [.i k_])
def madrigalref17_Paid_l0.exK (X : Type) (o : (Int)) (k : Exit → St → Option X) : Option X :=
  match o with
  | k_ => k .normal (fiS madrigalref17_Paid_l0.x0 [.i k_])
theorem madrigalref17_Paid_l0.hex : ExOk 0 madrigalref17_Paid_l0.exits madrigalref17_Paid_l0.ex :=
  exOk_cons rfl (by intro ls o h; unfold madrigalref17_Paid_l0.y0 at h; split at h <;> first | (cases h; rfl) | cases h) (exOk_nil)
noncomputable def madrigalref17_Paid_l0.ctx (k : Nat) (X : Type) : Ctx X := mkCtx Try.prog (madrigalref17_Paid.T k) [] [] X
theorem madrigalref17_Paid_l0.fits (k : Nat) : fitsL (madrigalref17_Paid_l0.ctx k (Int)) (loopB 0 madrigalref17_Paid.code) = [] := by kernel_rfl
def madrigalref17_Paid_l0.J (k : Nat) (X : Type) : Contract X := fun c s => (pt madrigalref17_Paid_l0.sk madrigalref17_Paid_l0.cv s).bind fun d => (madrigalref17_Paid_l0 k k d).bind fun o => madrigalref17_Paid_l0.exK X o c
theorem madrigalref17_Paid_l0.run (k : Nat) (n : Nat) (d : (Int × Int × Int × Int)) : evC (madrigalref17_Paid_l0.ctx k (Int)) (loopB 0 madrigalref17_Paid.code) (backK (fun s => (pt madrigalref17_Paid_l0.sk madrigalref17_Paid_l0.cv s).bind (madrigalref17_Paid_l0 k n)) madrigalref17_Paid_l0.exits) (fiS madrigalref17_Paid_l0.sk (madrigalref17_Paid_l0.un d)) = madrigalref17_Paid_l0 k (n + 1) d := by
  obtain ⟨n, bits, most, k_⟩ := d; kernel_rfl
theorem madrigalref17_Paid_l0.ok (k : Nat) (X : Type) : CodeOk Try.prog 0 (.block 0 (.loop (loopB 0 madrigalref17_Paid.code))) (madrigalref17_Paid_l0.J k X) :=
  loop_mk (c := madrigalref17_Paid_l0.ctx k) (ctx_ok (madrigalref17_Paid.rows k) _ _) rfl hm0 (fits_of (madrigalref17_Paid_l0.fits k) (fits_nil)) rfl madrigalref17_Paid_l0.hcv madrigalref17_Paid_l0.hex (fun _ => rfl) (madrigalref17_Paid_l0.run k) (exK := madrigalref17_Paid_l0.exK) (by intro X o k; rcases o with k_ <;> rfl) k X
def madrigalref17_Paid.ps : List SV := [.int .i64, .int .i64]
def madrigalref17_Paid.bs : List (SB × Md) := []
def madrigalref17_Paid.cv : List Lf → Option (Int × Int)
  | [.i n, .i bits] => some (n, bits)
  | _ => none
def madrigalref17_Paid.un : (Int × Int) → List Lf
  | (n, bits) => [.i n, .i bits]
theorem madrigalref17_Paid.hcv : ∀ ls d, madrigalref17_Paid.cv ls = some d → ls = madrigalref17_Paid.un d := by
  intro ls d h; unfold madrigalref17_Paid.cv at h; split at h <;> first | (cases h; rfl) | cases h
def madrigalref17_Paid.r0 : Sk := { nt := 1, n0 := 0, slots := [(0, .int .i64)], blocks := [] }
def madrigalref17_Paid.z0 : List Lf → Option (Int)
  | [.i r] => some r
  | _ => none
def madrigalref17_Paid.fins : List (Sk × (List Lf → Option (Int))) := [(madrigalref17_Paid.r0, madrigalref17_Paid.z0)]
def madrigalref17_Paid.fx : (Int) → Sk × List Lf
  | r => (madrigalref17_Paid.r0, [.i r])
def madrigalref17_Paid.outK (X : Type) (o : (Int)) (k : AV → Heap → Option X) : Option X :=
  match o with
  | r => k (tget (fiS madrigalref17_Paid.r0 [.i r]).tmps 0) (fiS madrigalref17_Paid.r0 [.i r]).heap
theorem madrigalref17_Paid.hfx : FinOk 0 madrigalref17_Paid.fins madrigalref17_Paid.fx :=
  finOk_cons rfl rfl (by intro ls o h; unfold madrigalref17_Paid.z0 at h; split at h <;> first | (cases h; rfl) | cases h) (finOk_nil)
def madrigalref17_Paid.g (k : Nat) : (Int × Int) → Option (Int)
  | (n, bits) => madrigalref17_Paid k n bits
def madrigalref17_Paid.J (k : Nat) : FC := fun X => callF madrigalref17_Paid.ps madrigalref17_Paid.bs (fun ls => (madrigalref17_Paid.cv ls).bind (madrigalref17_Paid.g k)) (madrigalref17_Paid.outK X)
noncomputable def madrigalref17_Paid.ctx (k : Nat) (X : Type) : Ctx X := mkCtx Try.prog (madrigalref17_Paid.T k) [(0, madrigalref17_Paid_l0.J k)] [] X
theorem madrigalref17_Paid.fits (k : Nat) : fitsL (madrigalref17_Paid.ctx k (Int)) (bodyOf Try.f22) = [(.block 0 (.loop (loopB 0 madrigalref17_Paid.code)), madrigalref17_Paid_l0.J k (Int))] := by kernel_rfl
theorem madrigalref17_Paid.run (k : Nat) (d : (Int × Int)) : evC (madrigalref17_Paid.ctx k (Int)) (bodyOf Try.f22) (funcK Try.prog Try.f22.results.toList madrigalref17_Paid.fins) (fiA Try.f22.ntmps madrigalref17_Paid.ps madrigalref17_Paid.bs (madrigalref17_Paid.un d)) = madrigalref17_Paid.g k d := by
  obtain ⟨n, bits⟩ := d; kernel_rfl
theorem madrigalref17_Paid.ok (k : Nat) : CallOk Try.prog 22 (madrigalref17_Paid.J k) :=
  func_mk (P := Try.prog) (n0 := 0) (ps := madrigalref17_Paid.ps) (bs := madrigalref17_Paid.bs) (fins := madrigalref17_Paid.fins) (fx := madrigalref17_Paid.fx) (g := (madrigalref17_Paid.g k)) (cv := madrigalref17_Paid.cv) (un := madrigalref17_Paid.un) (c := madrigalref17_Paid.ctx k) (ctx_ok (madrigalref17_Paid.rows k) _ _) rfl hm0 Try.func22 (by kernel_rfl) (by kernel_rfl) rfl (fits_of (madrigalref17_Paid.fits k) (fits_cons (madrigalref17_Paid_l0.ok k _) (fits_nil))) (Nat.le_of_ble_eq_true (by kernel_rfl)) madrigalref17_Paid.hcv madrigalref17_Paid.hfx (madrigalref17_Paid.run k) (outK := madrigalref17_Paid.outK) (by intro X o k; rcases o with r <;> rfl)

-- madrigal/madrigalref17.Pieces
def madrigalref17_Pieces_l0 (k : Nat) : Nat → (Int × Int × Int × List Int) → Option (List Int) := itN fun rec d => match d with
  | (n, p, i, l) =>
    br (decide (i < p)) (
      need (p ≠ 0) <|
      need (p ≠ 0) <|
      let t32 := IntKind.i64.wrap ((IntKind.i64.wrap ((IntKind.i64.wrap ((IntKind.i64.wrap (i + 1)) * n)).tdiv p)) - (IntKind.i64.wrap ((IntKind.i64.wrap (i * n)).tdiv p)))
      need (((l ++ [t32]).length) * 8 ≤ 140737488355328) <|
      rec (n, p, IntKind.i64.wrap (i + 1), l ++ [t32]))
    (
      some l)
def madrigalref17_Pieces (k : Nat) (n : Int) : Option (List Int) :=
  br (decide (n < 1)) (
    some [])
  (
    br (decide (1000 < n)) (
      some [])
    (
      (madrigalref17_Pieces_l0 k k (n, IntKind.i64.wrap ((IntKind.i64.wrap (n + 15)).tdiv 16), 0, [])).bind fun l =>
      some l))
noncomputable def madrigalref17_Pieces.code : Code := bodyOf Try.f23
noncomputable def madrigalref17_Pieces.T (k : Nat) : List Row := []
theorem madrigalref17_Pieces.rows (k : Nat) : RowsOk Try.prog (madrigalref17_Pieces.T k) := rows_nil _
def madrigalref17_Pieces_l0.sk : Sk := { nt := 36, n0 := 0, slots := [(0, .int .i64), (3, .int .i64), (4, .whole 0), (5, .int .i64)], blocks := [(.ints .i64, .own)] }
def madrigalref17_Pieces_l0.cv : List Lf → Option (Int × Int × Int × List Int)
  | [.i n, .i p, .i i, .li l] => some (n, p, i, l)
  | _ => none
def madrigalref17_Pieces_l0.un : (Int × Int × Int × List Int) → List Lf
  | (n, p, i, l) => [.i n, .i p, .i i, .li l]
theorem madrigalref17_Pieces_l0.hcv : ∀ ls d, madrigalref17_Pieces_l0.cv ls = some d → ls = madrigalref17_Pieces_l0.un d := by
  intro ls d h; unfold madrigalref17_Pieces_l0.cv at h; split at h <;> first | (cases h; rfl) | cases h
def madrigalref17_Pieces_l0.x0 : Sk := { nt := 36, n0 := 0, slots := [(4, .whole 0)], blocks := [(.ints .i64, .own)] }
def madrigalref17_Pieces_l0.y0 : List Lf → Option (List Int)
  | [.li l] => some l
  | _ => none
def madrigalref17_Pieces_l0.exits : List (Nat × Sk × (List Lf → Option (List Int))) := [(2, madrigalref17_Pieces_l0.x0, madrigalref17_Pieces_l0.y0)]
def madrigalref17_Pieces_l0.ex : (List Int) → Nat × Sk × List Lf
  | l => (2, madrigalref17_Pieces_l0.x0, [.li l])
def madrigalref17_Pieces_l0.exK (X : Type) (o : (List Int)) (k : Exit → St → Option X) : Option X :=
  match o with
  | l => k .normal (fiS madrigalref17_Pieces_l0.x0 [.li l])
theorem madrigalref17_Pieces_l0.hex : ExOk 0 madrigalref17_Pieces_l0.exits madrigalref17_Pieces_l0.ex :=
  exOk_cons rfl (by intro ls o h; unfold madrigalref17_Pieces_l0.y0 at h; split at h <;> first | (cases h; rfl) | cases h) (exOk_nil)
noncomputable def madrigalref17_Pieces_l0.ctx (k : Nat) (X : Type) : Ctx X := mkCtx Try.prog (madrigalref17_Pieces.T k) [] [] X
theorem madrigalref17_Pieces_l0.fits (k : Nat) : fitsL (madrigalref17_Pieces_l0.ctx k (List Int)) (loopB 0 madrigalref17_Pieces.code) = [] := by kernel_rfl
def madrigalref17_Pieces_l0.J (k : Nat) (X : Type) : Contract X := fun c s => (pt madrigalref17_Pieces_l0.sk madrigalref17_Pieces_l0.cv s).bind fun d => (madrigalref17_Pieces_l0 k k d).bind fun o => madrigalref17_Pieces_l0.exK X o c
theorem madrigalref17_Pieces_l0.run (k : Nat) (n : Nat) (d : (Int × Int × Int × List Int)) : evC (madrigalref17_Pieces_l0.ctx k (List Int)) (loopB 0 madrigalref17_Pieces.code) (backK (fun s => (pt madrigalref17_Pieces_l0.sk madrigalref17_Pieces_l0.cv s).bind (madrigalref17_Pieces_l0 k n)) madrigalref17_Pieces_l0.exits) (fiS madrigalref17_Pieces_l0.sk (madrigalref17_Pieces_l0.un d)) = madrigalref17_Pieces_l0 k (n + 1) d := by
  obtain ⟨n, p, i, l⟩ := d; kernel_rfl
theorem madrigalref17_Pieces_l0.ok (k : Nat) (X : Type) : CodeOk Try.prog 0 (.block 0 (.loop (loopB 0 madrigalref17_Pieces.code))) (madrigalref17_Pieces_l0.J k X) :=
  loop_mk (c := madrigalref17_Pieces_l0.ctx k) (ctx_ok (madrigalref17_Pieces.rows k) _ _) rfl hm0 (fits_of (madrigalref17_Pieces_l0.fits k) (fits_nil)) rfl madrigalref17_Pieces_l0.hcv madrigalref17_Pieces_l0.hex (fun _ => rfl) (madrigalref17_Pieces_l0.run k) (exK := madrigalref17_Pieces_l0.exK) (by intro X o k; rcases o with l <;> rfl) k X
def madrigalref17_Pieces.ps : List SV := [.int .i64]
def madrigalref17_Pieces.bs : List (SB × Md) := []
def madrigalref17_Pieces.cv : List Lf → Option (Int)
  | [.i n] => some n
  | _ => none
def madrigalref17_Pieces.un : (Int) → List Lf
  | n => [.i n]
theorem madrigalref17_Pieces.hcv : ∀ ls d, madrigalref17_Pieces.cv ls = some d → ls = madrigalref17_Pieces.un d := by
  intro ls d h; unfold madrigalref17_Pieces.cv at h; split at h <;> first | (cases h; rfl) | cases h
def madrigalref17_Pieces.r0 : Sk := { nt := 1, n0 := 0, slots := [(0, .whole 0)], blocks := [(.ints .i64, .own)] }
def madrigalref17_Pieces.z0 : List Lf → Option (List Int)
  | [.li r] => some r
  | _ => none
def madrigalref17_Pieces.fins : List (Sk × (List Lf → Option (List Int))) := [(madrigalref17_Pieces.r0, madrigalref17_Pieces.z0)]
def madrigalref17_Pieces.fx : (List Int) → Sk × List Lf
  | r => (madrigalref17_Pieces.r0, [.li r])
def madrigalref17_Pieces.outK (X : Type) (o : (List Int)) (k : AV → Heap → Option X) : Option X :=
  match o with
  | r => k (tget (fiS madrigalref17_Pieces.r0 [.li r]).tmps 0) (fiS madrigalref17_Pieces.r0 [.li r]).heap
theorem madrigalref17_Pieces.hfx : FinOk 0 madrigalref17_Pieces.fins madrigalref17_Pieces.fx :=
  finOk_cons rfl rfl (by intro ls o h; unfold madrigalref17_Pieces.z0 at h; split at h <;> first | (cases h; rfl) | cases h) (finOk_nil)
def madrigalref17_Pieces.g (k : Nat) : (Int) → Option (List Int)
  | n => madrigalref17_Pieces k n
def madrigalref17_Pieces.J (k : Nat) : FC := fun X => callF madrigalref17_Pieces.ps madrigalref17_Pieces.bs (fun ls => (madrigalref17_Pieces.cv ls).bind (madrigalref17_Pieces.g k)) (madrigalref17_Pieces.outK X)
noncomputable def madrigalref17_Pieces.ctx (k : Nat) (X : Type) : Ctx X := mkCtx Try.prog (madrigalref17_Pieces.T k) [(0, madrigalref17_Pieces_l0.J k)] [] X
theorem madrigalref17_Pieces.fits (k : Nat) : fitsL (madrigalref17_Pieces.ctx k (List Int)) (bodyOf Try.f23) = [(.block 0 (.loop (loopB 0 madrigalref17_Pieces.code)), madrigalref17_Pieces_l0.J k (List Int))] := by kernel_rfl
theorem madrigalref17_Pieces.run (k : Nat) (d : (Int)) : evC (madrigalref17_Pieces.ctx k (List Int)) (bodyOf Try.f23) (funcK Try.prog Try.f23.results.toList madrigalref17_Pieces.fins) (fiA Try.f23.ntmps madrigalref17_Pieces.ps madrigalref17_Pieces.bs (madrigalref17_Pieces.un d)) = madrigalref17_Pieces.g k d := by
  kernel_rfl
theorem madrigalref17_Pieces.ok (k : Nat) : CallOk Try.prog 23 (madrigalref17_Pieces.J k) :=
  func_mk (P := Try.prog) (n0 := 0) (ps := madrigalref17_Pieces.ps) (bs := madrigalref17_Pieces.bs) (fins := madrigalref17_Pieces.fins) (fx := madrigalref17_Pieces.fx) (g := (madrigalref17_Pieces.g k)) (cv := madrigalref17_Pieces.cv) (un := madrigalref17_Pieces.un) (c := madrigalref17_Pieces.ctx k) (ctx_ok (madrigalref17_Pieces.rows k) _ _) rfl hm0 Try.func23 (by kernel_rfl) (by kernel_rfl) rfl (fits_of (madrigalref17_Pieces.fits k) (fits_cons (madrigalref17_Pieces_l0.ok k _) (fits_nil))) (Nat.le_of_ble_eq_true (by kernel_rfl)) madrigalref17_Pieces.hcv madrigalref17_Pieces.hfx (madrigalref17_Pieces.run k) (outK := madrigalref17_Pieces.outK) (by intro X o k; rcases o with r <;> rfl)

-- madrigal/madrigalref1.Clamp
def madrigalref1_Clamp (a : Int) (lo : Int) (hi : Int) : Option (Int) :=
  br (decide (a < lo)) (
    some lo)
  (
    br (decide (hi < lo)) (
      some lo)
    (
      br (decide (hi < a)) (
        some hi)
      (
        some a)))
noncomputable def madrigalref1_Clamp.code : Code := bodyOf Try.f40
noncomputable def madrigalref1_Clamp.T (k : Nat) : List Row := []
theorem madrigalref1_Clamp.rows (k : Nat) : RowsOk Try.prog (madrigalref1_Clamp.T k) := rows_nil _
def madrigalref1_Clamp.ps : List SV := [.int .i64, .int .i64, .int .i64]
def madrigalref1_Clamp.bs : List (SB × Md) := []
def madrigalref1_Clamp.cv : List Lf → Option (Int × Int × Int)
  | [.i a, .i lo, .i hi] => some (a, lo, hi)
  | _ => none
def madrigalref1_Clamp.un : (Int × Int × Int) → List Lf
  | (a, lo, hi) => [.i a, .i lo, .i hi]
theorem madrigalref1_Clamp.hcv : ∀ ls d, madrigalref1_Clamp.cv ls = some d → ls = madrigalref1_Clamp.un d := by
  intro ls d h; unfold madrigalref1_Clamp.cv at h; split at h <;> first | (cases h; rfl) | cases h
def madrigalref1_Clamp.r0 : Sk := { nt := 1, n0 := 0, slots := [(0, .int .i64)], blocks := [] }
def madrigalref1_Clamp.z0 : List Lf → Option (Int)
  | [.i r] => some r
  | _ => none
def madrigalref1_Clamp.fins : List (Sk × (List Lf → Option (Int))) := [(madrigalref1_Clamp.r0, madrigalref1_Clamp.z0)]
def madrigalref1_Clamp.fx : (Int) → Sk × List Lf
  | r => (madrigalref1_Clamp.r0, [.i r])
def madrigalref1_Clamp.outK (X : Type) (o : (Int)) (k : AV → Heap → Option X) : Option X :=
  match o with
  | r => k (tget (fiS madrigalref1_Clamp.r0 [.i r]).tmps 0) (fiS madrigalref1_Clamp.r0 [.i r]).heap
theorem madrigalref1_Clamp.hfx : FinOk 0 madrigalref1_Clamp.fins madrigalref1_Clamp.fx :=
  finOk_cons rfl rfl (by intro ls o h; unfold madrigalref1_Clamp.z0 at h; split at h <;> first | (cases h; rfl) | cases h) (finOk_nil)
def madrigalref1_Clamp.g : (Int × Int × Int) → Option (Int)
  | (a, lo, hi) => madrigalref1_Clamp a lo hi
def madrigalref1_Clamp.J : FC := fun X => callF madrigalref1_Clamp.ps madrigalref1_Clamp.bs (fun ls => (madrigalref1_Clamp.cv ls).bind madrigalref1_Clamp.g) (madrigalref1_Clamp.outK X)
noncomputable def madrigalref1_Clamp.ctx (k : Nat) (X : Type) : Ctx X := mkCtx Try.prog (madrigalref1_Clamp.T k) [] [] X
theorem madrigalref1_Clamp.fits (k : Nat) : fitsL (madrigalref1_Clamp.ctx k (Int)) (bodyOf Try.f40) = [] := by kernel_rfl
theorem madrigalref1_Clamp.run (k : Nat) (d : (Int × Int × Int)) : evC (madrigalref1_Clamp.ctx k (Int)) (bodyOf Try.f40) (funcK Try.prog Try.f40.results.toList madrigalref1_Clamp.fins) (fiA Try.f40.ntmps madrigalref1_Clamp.ps madrigalref1_Clamp.bs (madrigalref1_Clamp.un d)) = madrigalref1_Clamp.g d := by
  obtain ⟨a, lo, hi⟩ := d; kernel_rfl
theorem madrigalref1_Clamp.ok : CallOk Try.prog 40 (madrigalref1_Clamp.J) :=
  func_mk (P := Try.prog) (n0 := 0) (ps := madrigalref1_Clamp.ps) (bs := madrigalref1_Clamp.bs) (fins := madrigalref1_Clamp.fins) (fx := madrigalref1_Clamp.fx) (g := madrigalref1_Clamp.g) (cv := madrigalref1_Clamp.cv) (un := madrigalref1_Clamp.un) (c := madrigalref1_Clamp.ctx 0) (ctx_ok (madrigalref1_Clamp.rows 0) _ _) rfl hm0 Try.func40 (by kernel_rfl) (by kernel_rfl) rfl (fits_of (madrigalref1_Clamp.fits 0) (fits_nil)) (Nat.le_of_ble_eq_true (by kernel_rfl)) madrigalref1_Clamp.hcv madrigalref1_Clamp.hfx (madrigalref1_Clamp.run 0) (outK := madrigalref1_Clamp.outK) (by intro X o k; rcases o with r <;> rfl)

-- madrigal/madrigalref17.Split
def madrigalref17_Split_l0 (k : Nat) : Nat → (Int × Int × Int × List Int) → Option (List Int) := itN fun rec d => match d with
  | (b, p, i, l) =>
    br (decide (i < p)) (
      need (p ≠ 0) <|
      need (p ≠ 0) <|
      br (decide (i < (b.tmod p))) (
        let t29 := IntKind.i64.wrap ((IntKind.i64.wrap (b.tdiv p)) + 1)
        need (((l ++ [t29]).length) * 8 ≤ 140737488355328) <|
        rec (b, p, IntKind.i64.wrap (i + 1), l ++ [t29]))
      (
        need (((l ++ [IntKind.i64.wrap (b.tdiv p)]).length) * 8 ≤ 140737488355328) <|
        rec (b, p, IntKind.i64.wrap (i + 1), l ++ [IntKind.i64.wrap (b.tdiv p)])))
    (
      some l)
def madrigalref17_Split (k : Nat) (n : Int) (bits : Int) : Option (List Int) :=
  (madrigalref1_Clamp bits 0 1048576).bind fun t11 =>
  (madrigalref17_Pieces k n).bind fun t13 =>
  (madrigalref17_Split_l0 k k (t11, (((t13.length) : Nat) : Int), 0, [])).bind fun l =>
  some l
noncomputable def madrigalref17_Split.code : Code := bodyOf Try.f24
noncomputable def madrigalref17_Split.T (k : Nat) : List Row := [⟨40, madrigalref1_Clamp.ps, madrigalref1_Clamp.bs, madrigalref1_Clamp.J⟩, ⟨23, madrigalref17_Pieces.ps, madrigalref17_Pieces.bs, madrigalref17_Pieces.J k⟩]
theorem madrigalref17_Split.rows (k : Nat) : RowsOk Try.prog (madrigalref17_Split.T k) := rows_cons (madrigalref1_Clamp.ok) (rows_cons (madrigalref17_Pieces.ok k) (rows_nil _))
def madrigalref17_Split_l0.sk : Sk := { nt := 35, n0 := 0, slots := [(5, .int .i64), (6, .int .i64), (7, .whole 0), (8, .int .i64)], blocks := [(.ints .i64, .own)] }
def madrigalref17_Split_l0.cv : List Lf → Option (Int × Int × Int × List Int)
  | [.i b, .i p, .i i, .li l] => some (b, p, i, l)
  | _ => none
def madrigalref17_Split_l0.un : (Int × Int × Int × List Int) → List Lf
  | (b, p, i, l) => [.i b, .i p, .i i, .li l]
theorem madrigalref17_Split_l0.hcv : ∀ ls d, madrigalref17_Split_l0.cv ls = some d → ls = madrigalref17_Split_l0.un d := by
  intro ls d h; unfold madrigalref17_Split_l0.cv at h; split at h <;> first | (cases h; rfl) | cases h
def madrigalref17_Split_l0.x0 : Sk := { nt := 35, n0 := 0, slots := [(7, .whole 0)], blocks := [(.ints .i64, .own)] }
def madrigalref17_Split_l0.y0 : List Lf → Option (List Int)
  | [.li l] => some l
  | _ => none
def madrigalref17_Split_l0.exits : List (Nat × Sk × (List Lf → Option (List Int))) := [(2, madrigalref17_Split_l0.x0, madrigalref17_Split_l0.y0)]
def madrigalref17_Split_l0.ex : (List Int) → Nat × Sk × List Lf
  | l => (2, madrigalref17_Split_l0.x0, [.li l])
def madrigalref17_Split_l0.exK (X : Type) (o : (List Int)) (k : Exit → St → Option X) : Option X :=
  match o with
  | l => k .normal (fiS madrigalref17_Split_l0.x0 [.li l])
theorem madrigalref17_Split_l0.hex : ExOk 0 madrigalref17_Split_l0.exits madrigalref17_Split_l0.ex :=
  exOk_cons rfl (by intro ls o h; unfold madrigalref17_Split_l0.y0 at h; split at h <;> first | (cases h; rfl) | cases h) (exOk_nil)
noncomputable def madrigalref17_Split_l0.ctx (k : Nat) (X : Type) : Ctx X := mkCtx Try.prog (madrigalref17_Split.T k) [] [] X
theorem madrigalref17_Split_l0.fits (k : Nat) : fitsL (madrigalref17_Split_l0.ctx k (List Int)) (loopB 0 madrigalref17_Split.code) = [] := by kernel_rfl
def madrigalref17_Split_l0.J (k : Nat) (X : Type) : Contract X := fun c s => (pt madrigalref17_Split_l0.sk madrigalref17_Split_l0.cv s).bind fun d => (madrigalref17_Split_l0 k k d).bind fun o => madrigalref17_Split_l0.exK X o c
theorem madrigalref17_Split_l0.run (k : Nat) (n : Nat) (d : (Int × Int × Int × List Int)) : evC (madrigalref17_Split_l0.ctx k (List Int)) (loopB 0 madrigalref17_Split.code) (backK (fun s => (pt madrigalref17_Split_l0.sk madrigalref17_Split_l0.cv s).bind (madrigalref17_Split_l0 k n)) madrigalref17_Split_l0.exits) (fiS madrigalref17_Split_l0.sk (madrigalref17_Split_l0.un d)) = madrigalref17_Split_l0 k (n + 1) d := by
  obtain ⟨b, p, i, l⟩ := d; kernel_rfl
theorem madrigalref17_Split_l0.ok (k : Nat) (X : Type) : CodeOk Try.prog 0 (.block 0 (.loop (loopB 0 madrigalref17_Split.code))) (madrigalref17_Split_l0.J k X) :=
  loop_mk (c := madrigalref17_Split_l0.ctx k) (ctx_ok (madrigalref17_Split.rows k) _ _) rfl hm0 (fits_of (madrigalref17_Split_l0.fits k) (fits_nil)) rfl madrigalref17_Split_l0.hcv madrigalref17_Split_l0.hex (fun _ => rfl) (madrigalref17_Split_l0.run k) (exK := madrigalref17_Split_l0.exK) (by intro X o k; rcases o with l <;> rfl) k X
def madrigalref17_Split.ps : List SV := [.int .i64, .int .i64]
def madrigalref17_Split.bs : List (SB × Md) := []
def madrigalref17_Split.cv : List Lf → Option (Int × Int)
  | [.i n, .i bits] => some (n, bits)
  | _ => none
def madrigalref17_Split.un : (Int × Int) → List Lf
  | (n, bits) => [.i n, .i bits]
theorem madrigalref17_Split.hcv : ∀ ls d, madrigalref17_Split.cv ls = some d → ls = madrigalref17_Split.un d := by
  intro ls d h; unfold madrigalref17_Split.cv at h; split at h <;> first | (cases h; rfl) | cases h
def madrigalref17_Split.r0 : Sk := { nt := 1, n0 := 0, slots := [(0, .whole 0)], blocks := [(.ints .i64, .own)] }
def madrigalref17_Split.z0 : List Lf → Option (List Int)
  | [.li r] => some r
  | _ => none
def madrigalref17_Split.fins : List (Sk × (List Lf → Option (List Int))) := [(madrigalref17_Split.r0, madrigalref17_Split.z0)]
def madrigalref17_Split.fx : (List Int) → Sk × List Lf
  | r => (madrigalref17_Split.r0, [.li r])
def madrigalref17_Split.outK (X : Type) (o : (List Int)) (k : AV → Heap → Option X) : Option X :=
  match o with
  | r => k (tget (fiS madrigalref17_Split.r0 [.li r]).tmps 0) (fiS madrigalref17_Split.r0 [.li r]).heap
theorem madrigalref17_Split.hfx : FinOk 0 madrigalref17_Split.fins madrigalref17_Split.fx :=
  finOk_cons rfl rfl (by intro ls o h; unfold madrigalref17_Split.z0 at h; split at h <;> first | (cases h; rfl) | cases h) (finOk_nil)
def madrigalref17_Split.g (k : Nat) : (Int × Int) → Option (List Int)
  | (n, bits) => madrigalref17_Split k n bits
def madrigalref17_Split.J (k : Nat) : FC := fun X => callF madrigalref17_Split.ps madrigalref17_Split.bs (fun ls => (madrigalref17_Split.cv ls).bind (madrigalref17_Split.g k)) (madrigalref17_Split.outK X)
noncomputable def madrigalref17_Split.ctx (k : Nat) (X : Type) : Ctx X := mkCtx Try.prog (madrigalref17_Split.T k) [(0, madrigalref17_Split_l0.J k)] [] X
theorem madrigalref17_Split.fits (k : Nat) : fitsL (madrigalref17_Split.ctx k (List Int)) (bodyOf Try.f24) = [(.block 0 (.loop (loopB 0 madrigalref17_Split.code)), madrigalref17_Split_l0.J k (List Int))] := by kernel_rfl
theorem madrigalref17_Split.run (k : Nat) (d : (Int × Int)) : evC (madrigalref17_Split.ctx k (List Int)) (bodyOf Try.f24) (funcK Try.prog Try.f24.results.toList madrigalref17_Split.fins) (fiA Try.f24.ntmps madrigalref17_Split.ps madrigalref17_Split.bs (madrigalref17_Split.un d)) = madrigalref17_Split.g k d := by
  obtain ⟨n, bits⟩ := d; kernel_rfl
theorem madrigalref17_Split.ok (k : Nat) : CallOk Try.prog 24 (madrigalref17_Split.J k) :=
  func_mk (P := Try.prog) (n0 := 0) (ps := madrigalref17_Split.ps) (bs := madrigalref17_Split.bs) (fins := madrigalref17_Split.fins) (fx := madrigalref17_Split.fx) (g := (madrigalref17_Split.g k)) (cv := madrigalref17_Split.cv) (un := madrigalref17_Split.un) (c := madrigalref17_Split.ctx k) (ctx_ok (madrigalref17_Split.rows k) _ _) rfl hm0 Try.func24 (by kernel_rfl) (by kernel_rfl) rfl (fits_of (madrigalref17_Split.fits k) (fits_cons (madrigalref17_Split_l0.ok k _) (fits_nil))) (Nat.le_of_ble_eq_true (by kernel_rfl)) madrigalref17_Split.hcv madrigalref17_Split.hfx (madrigalref17_Split.run k) (outK := madrigalref17_Split.outK) (by intro X o k; rcases o with r <;> rfl)

-- madrigal/madrigallaw18.AllocSays
def madrigallaw18_AllocSays (k : Nat) (n : Int) (bits : Int) : Option (Bool) :=
  (madrigallaw18_awake k).bind fun t5 =>
  br (!t5) (
    some false)
  (
    (alloc_Pulses k n bits).bind fun t9 =>
    (madrigalref17_Paid k n bits).bind fun t12 =>
    br (decide (t9 = t12)) (
      (alloc_Pieces k n).bind fun t16 =>
      (madrigalref17_Pieces k n).bind fun t18 =>
      (madrigallaw18_ints k t16 t18).bind fun (t19, b0, b1) =>
      br t19 (
        (alloc_Split k n bits).bind fun t24 =>
        (madrigalref17_Split k n bits).bind fun t27 =>
        (madrigallaw18_ints k t24 t27).bind fun (t28, b0_1, b1_1) =>
        some t28)
      (
        some false))
    (
      some false))
noncomputable def madrigallaw18_AllocSays.code : Code := bodyOf Try.f5
noncomputable def madrigallaw18_AllocSays.T (k : Nat) : List Row := [⟨14, madrigallaw18_awake.ps, madrigallaw18_awake.bs, madrigallaw18_awake.J k⟩, ⟨16, alloc_Pulses.ps, alloc_Pulses.bs, alloc_Pulses.J k⟩, ⟨22, madrigalref17_Paid.ps, madrigalref17_Paid.bs, madrigalref17_Paid.J k⟩, ⟨17, alloc_Pieces.ps, alloc_Pieces.bs, alloc_Pieces.J k⟩, ⟨23, madrigalref17_Pieces.ps, madrigalref17_Pieces.bs, madrigalref17_Pieces.J k⟩, ⟨20, madrigallaw18_ints.ps, madrigallaw18_ints.bs, madrigallaw18_ints.J k⟩, ⟨18, alloc_Split.ps, alloc_Split.bs, alloc_Split.J k⟩, ⟨24, madrigalref17_Split.ps, madrigalref17_Split.bs, madrigalref17_Split.J k⟩]
theorem madrigallaw18_AllocSays.rows (k : Nat) : RowsOk Try.prog (madrigallaw18_AllocSays.T k) := rows_cons (madrigallaw18_awake.ok k) (rows_cons (alloc_Pulses.ok k) (rows_cons (madrigalref17_Paid.ok k) (rows_cons (alloc_Pieces.ok k) (rows_cons (madrigalref17_Pieces.ok k) (rows_cons (madrigallaw18_ints.ok k) (rows_cons (alloc_Split.ok k) (rows_cons (madrigalref17_Split.ok k) (rows_nil _))))))))
def madrigallaw18_AllocSays.ps : List SV := [.int .i64, .int .i64]
def madrigallaw18_AllocSays.bs : List (SB × Md) := []
def madrigallaw18_AllocSays.cv : List Lf → Option (Int × Int)
  | [.i n, .i bits] => some (n, bits)
  | _ => none
def madrigallaw18_AllocSays.un : (Int × Int) → List Lf
  | (n, bits) => [.i n, .i bits]
theorem madrigallaw18_AllocSays.hcv : ∀ ls d, madrigallaw18_AllocSays.cv ls = some d → ls = madrigallaw18_AllocSays.un d := by
  intro ls d h; unfold madrigallaw18_AllocSays.cv at h; split at h <;> first | (cases h; rfl) | cases h
def madrigallaw18_AllocSays.r0 : Sk := { nt := 1, n0 := 0, slots := [(0, .bool)], blocks := [] }
def madrigallaw18_AllocSays.z0 : List Lf → Option (Bool)
  | [.b r] => some r
  | _ => none
def madrigallaw18_AllocSays.fins : List (Sk × (List Lf → Option (Bool))) := [(madrigallaw18_AllocSays.r0, madrigallaw18_AllocSays.z0)]
def madrigallaw18_AllocSays.fx : (Bool) → Sk × List Lf
  | r => (madrigallaw18_AllocSays.r0, [.b r])
def madrigallaw18_AllocSays.outK (X : Type) (o : (Bool)) (k : AV → Heap → Option X) : Option X :=
  match o with
  | r => k (tget (fiS madrigallaw18_AllocSays.r0 [.b r]).tmps 0) (fiS madrigallaw18_AllocSays.r0 [.b r]).heap
theorem madrigallaw18_AllocSays.hfx : FinOk 0 madrigallaw18_AllocSays.fins madrigallaw18_AllocSays.fx :=
  finOk_cons rfl rfl (by intro ls o h; unfold madrigallaw18_AllocSays.z0 at h; split at h <;> first | (cases h; rfl) | cases h) (finOk_nil)
def madrigallaw18_AllocSays.g (k : Nat) : (Int × Int) → Option (Bool)
  | (n, bits) => madrigallaw18_AllocSays k n bits
def madrigallaw18_AllocSays.J (k : Nat) : FC := fun X => callF madrigallaw18_AllocSays.ps madrigallaw18_AllocSays.bs (fun ls => (madrigallaw18_AllocSays.cv ls).bind (madrigallaw18_AllocSays.g k)) (madrigallaw18_AllocSays.outK X)
noncomputable def madrigallaw18_AllocSays.ctx (k : Nat) (X : Type) : Ctx X := mkCtx Try.prog (madrigallaw18_AllocSays.T k) [] [] X
theorem madrigallaw18_AllocSays.fits (k : Nat) : fitsL (madrigallaw18_AllocSays.ctx k (Bool)) (bodyOf Try.f5) = [] := by kernel_rfl
theorem madrigallaw18_AllocSays.run (k : Nat) (d : (Int × Int)) : evC (madrigallaw18_AllocSays.ctx k (Bool)) (bodyOf Try.f5) (funcK Try.prog Try.f5.results.toList madrigallaw18_AllocSays.fins) (fiA Try.f5.ntmps madrigallaw18_AllocSays.ps madrigallaw18_AllocSays.bs (madrigallaw18_AllocSays.un d)) = madrigallaw18_AllocSays.g k d := by
  obtain ⟨n, bits⟩ := d; kernel_rfl
theorem madrigallaw18_AllocSays.ok (k : Nat) : CallOk Try.prog 5 (madrigallaw18_AllocSays.J k) :=
  func_mk (P := Try.prog) (n0 := 0) (ps := madrigallaw18_AllocSays.ps) (bs := madrigallaw18_AllocSays.bs) (fins := madrigallaw18_AllocSays.fins) (fx := madrigallaw18_AllocSays.fx) (g := (madrigallaw18_AllocSays.g k)) (cv := madrigallaw18_AllocSays.cv) (un := madrigallaw18_AllocSays.un) (c := madrigallaw18_AllocSays.ctx k) (ctx_ok (madrigallaw18_AllocSays.rows k) _ _) rfl hm0 Try.func5 (by kernel_rfl) (by kernel_rfl) rfl (fits_of (madrigallaw18_AllocSays.fits k) (fits_nil)) (Nat.le_of_ble_eq_true (by kernel_rfl)) madrigallaw18_AllocSays.hcv madrigallaw18_AllocSays.hfx (madrigallaw18_AllocSays.run k) (outK := madrigallaw18_AllocSays.outK) (by intro X o k; rcases o with r <;> rfl)

-- madrigal/madrigallaw18.AllocHolds
def madrigallaw18_AllocHolds_l0 (k : Nat) : Nat → (Int × Int × Int × Int × Int × List Int × List Int) → Option ((Int × Int × Int × Int) ⊕ (Bool)) := itN fun rec d => match d with
  | (n, bits, s, t, i, p, b) =>
    br (decide (i < (((p.length) : Nat) : Int))) (
      need (0 ≤ i ∧ i < (((p.length) : Nat) : Int)) <|
      br (decide ((p.getD (i.toNat) 0) < 1)) (
        some (.inr false))
      (
        need (0 ≤ i ∧ i < (((p.length) : Nat) : Int)) <|
        br (decide (16 < (p.getD (i.toNat) 0))) (
          some (.inr false))
        (
          need (0 ≤ i ∧ i < (((b.length) : Nat) : Int)) <|
          br (decide ((b.getD (i.toNat) 0) < 0)) (
            some (.inr false))
          (
            need (0 ≤ i ∧ i < (((p.length) : Nat) : Int)) <|
            let t67 := IntKind.i64.wrap (s + (p.getD (i.toNat) 0))
            need (0 ≤ i ∧ i < (((b.length) : Nat) : Int)) <|
            let t73 := IntKind.i64.wrap (t + (b.getD (i.toNat) 0))
            need (0 ≤ i ∧ i < (((p.length) : Nat) : Int)) <|
            need (0 ≤ i ∧ i < (((b.length) : Nat) : Int)) <|
            (alloc_Pulses k (p.getD (i.toNat) 0) (b.getD (i.toNat) 0)).bind fun t82 =>
            need (0 ≤ i ∧ i < (((p.length) : Nat) : Int)) <|
            need (0 ≤ i ∧ i < (((b.length) : Nat) : Int)) <|
            (alloc_Pulses k (p.getD (i.toNat) 0) (IntKind.i64.wrap ((b.getD (i.toNat) 0) + 1))).bind fun t93 =>
            br (decide (t93 < t82)) (
              some (.inr false))
            (
              br (decide (0 < t82)) (
                need (0 ≤ i ∧ i < (((p.length) : Nat) : Int)) <|
                (madrigalref17_Count k (p.getD (i.toNat) 0) t82).bind fun t104 =>
                (madrigalref1_Len k (IntKind.i64.wrap (t104 - 1))).bind fun t106 =>
                need (0 ≤ i ∧ i < (((b.length) : Nat) : Int)) <|
                br (decide ((b.getD (i.toNat) 0) < t106)) (
                  some (.inr false))
                (
                  rec (n, bits, t67, t73, IntKind.i64.wrap (i + 1), p, b)))
              (
                rec (n, bits, t67, t73, IntKind.i64.wrap (i + 1), p, b)))))))
    (
      some (.inl (n, bits, s, t)))
def madrigallaw18_AllocHolds (k : Nat) (n : Int) (bits : Int) : Option (Bool) :=
  (madrigallaw18_awake k).bind fun t11 =>
  br (!t11) (
    some false)
  (
    br (decide (n < 1)) (
      some true)
    (
      br (decide (1000 < n)) (
        some true)
      (
        br (decide (bits < 0)) (
          some true)
        (
          br (decide (1048576 < bits)) (
            some true)
          (
            (alloc_Pieces k n).bind fun t28 =>
            (alloc_Split k n bits).bind fun t31 =>
            br (!decide ((((t28.length) : Nat) : Int) = (((t31.length) : Nat) : Int))) (
              some false)
            (
              (madrigallaw18_AllocHolds_l0 k k (n, bits, 0, 0, 0, t28, t31)).bind fun o => match o with
              | .inl (n1, bits1, s, t) =>
                br (decide (s = n1)) (
                  some (decide (t = bits1)))
                (
                  some false)
              | .inr t4 =>
                some t4))))))
noncomputable def madrigallaw18_AllocHolds.code : Code := bodyOf Try.f6
noncomputable def madrigallaw18_AllocHolds.T (k : Nat) : List Row := [⟨14, madrigallaw18_awake.ps, madrigallaw18_awake.bs, madrigallaw18_awake.J k⟩, ⟨17, alloc_Pieces.ps, alloc_Pieces.bs, alloc_Pieces.J k⟩, ⟨18, alloc_Split.ps, alloc_Split.bs, alloc_Split.J k⟩, ⟨16, alloc_Pulses.ps, alloc_Pulses.bs, alloc_Pulses.J k⟩, ⟨26, madrigalref17_Count.ps, madrigalref17_Count.bs, madrigalref17_Count.J k⟩, ⟨25, madrigalref1_Len.ps, madrigalref1_Len.bs, madrigalref1_Len.J k⟩]
theorem madrigallaw18_AllocHolds.rows (k : Nat) : RowsOk Try.prog (madrigallaw18_AllocHolds.T k) := rows_cons (madrigallaw18_awake.ok k) (rows_cons (alloc_Pieces.ok k) (rows_cons (alloc_Split.ok k) (rows_cons (alloc_Pulses.ok k) (rows_cons (madrigalref17_Count.ok k) (rows_cons (madrigalref1_Len.ok k) (rows_nil _))))))
def madrigallaw18_AllocHolds_l0.sk : Sk := { nt := 122, n0 := 0, slots := [(0, .int .i64), (1, .int .i64), (5, .whole 0), (6, .whole 1), (7, .int .i64), (8, .int .i64), (9, .int .i64)], blocks := [(.ints .i64, .own), (.ints .i64, .own)] }
def madrigallaw18_AllocHolds_l0.cv : List Lf → Option (Int × Int × Int × Int × Int × List Int × List Int)
  | [.i n, .i bits, .i s, .i t, .i i, .li p, .li b] => some (n, bits, s, t, i, p, b)
  | _ => none
def madrigallaw18_AllocHolds_l0.un : (Int × Int × Int × Int × Int × List Int × List Int) → List Lf
  | (n, bits, s, t, i, p, b) => [.i n, .i bits, .i s, .i t, .i i, .li p, .li b]
theorem madrigallaw18_AllocHolds_l0.hcv : ∀ ls d, madrigallaw18_AllocHolds_l0.cv ls = some d → ls = madrigallaw18_AllocHolds_l0.un d := by
  intro ls d h; unfold madrigallaw18_AllocHolds_l0.cv at h; split at h <;> first | (cases h; rfl) | cases h
def madrigallaw18_AllocHolds_l0.x0 : Sk := { nt := 122, n0 := 0, slots := [(0, .int .i64), (1, .int .i64), (7, .int .i64), (8, .int .i64)], blocks := [] }
def madrigallaw18_AllocHolds_l0.y0 : List Lf → Option ((Int × Int × Int × Int) ⊕ (Bool))
  | [.i n, .i bits, .i s, .i t] => some (.inl (n, bits, s, t))
  | _ => none
def madrigallaw18_AllocHolds_l0.x1 : Sk := { nt := 122, n0 := 0, slots := [(4, .bool)], blocks := [] }
def madrigallaw18_AllocHolds_l0.y1 : List Lf → Option ((Int × Int × Int × Int) ⊕ (Bool))
  | [.b t4] => some (.inr t4)
  | _ => none
def madrigallaw18_AllocHolds_l0.exits : List (Nat × Sk × (List Lf → Option ((Int × Int × Int × Int) ⊕ (Bool)))) := [(2, madrigallaw18_AllocHolds_l0.x0, madrigallaw18_AllocHolds_l0.y0), (1, madrigallaw18_AllocHolds_l0.x1, madrigallaw18_AllocHolds_l0.y1)]
def madrigallaw18_AllocHolds_l0.ex : ((Int × Int × Int × Int) ⊕ (Bool)) → Nat × Sk × List Lf
  | .inl (n, bits, s, t) => (2, madrigallaw18_AllocHolds_l0.x0, [.i n, .i bits, .i s, .i t])
  | .inr t4 => (1, madrigallaw18_AllocHolds_l0.x1, [.b t4])
def madrigallaw18_AllocHolds_l0.exK (X : Type) (o : ((Int × Int × Int × Int) ⊕ (Bool))) (k : Exit → St → Option X) : Option X :=
  match o with
  | .inl (n, bits, s, t) => k .normal (fiS madrigallaw18_AllocHolds_l0.x0 [.i n, .i bits, .i s, .i t])
  | .inr t4 => k .ret (fiS madrigallaw18_AllocHolds_l0.x1 [.b t4])
theorem madrigallaw18_AllocHolds_l0.hex : ExOk 0 madrigallaw18_AllocHolds_l0.exits madrigallaw18_AllocHolds_l0.ex :=
  exOk_cons rfl (by intro ls o h; unfold madrigallaw18_AllocHolds_l0.y0 at h; split at h <;> first | (cases h; rfl) | cases h) (exOk_cons rfl (by intro ls o h; unfold madrigallaw18_AllocHolds_l0.y1 at h; split at h <;> first | (cases h; rfl) | cases h) (exOk_nil))
noncomputable def madrigallaw18_AllocHolds_l0.ctx (k : Nat) (X : Type) : Ctx X := mkCtx Try.prog (madrigallaw18_AllocHolds.T k) [] [] X
theorem madrigallaw18_AllocHolds_l0.fits (k : Nat) : fitsL (madrigallaw18_AllocHolds_l0.ctx k ((Int × Int × Int × Int) ⊕ (Bool))) (loopB 0 madrigallaw18_AllocHolds.code) = [] := by kernel_rfl
def madrigallaw18_AllocHolds_l0.J (k : Nat) (X : Type) : Contract X := fun c s => (pt madrigallaw18_AllocHolds_l0.sk madrigallaw18_AllocHolds_l0.cv s).bind fun d => (madrigallaw18_AllocHolds_l0 k k d).bind fun o => madrigallaw18_AllocHolds_l0.exK X o c
theorem madrigallaw18_AllocHolds_l0.run (k : Nat) (n : Nat) (d : (Int × Int × Int × Int × Int × List Int × List Int)) : evC (madrigallaw18_AllocHolds_l0.ctx k ((Int × Int × Int × Int) ⊕ (Bool))) (loopB 0 madrigallaw18_AllocHolds.code) (backK (fun s => (pt madrigallaw18_AllocHolds_l0.sk madrigallaw18_AllocHolds_l0.cv s).bind (madrigallaw18_AllocHolds_l0 k n)) madrigallaw18_AllocHolds_l0.exits) (fiS madrigallaw18_AllocHolds_l0.sk (madrigallaw18_AllocHolds_l0.un d)) = madrigallaw18_AllocHolds_l0 k (n + 1) d := by
  obtain ⟨n, bits, s, t, i, p, b⟩ := d; kernel_rfl
theorem madrigallaw18_AllocHolds_l0.ok (k : Nat) (X : Type) : CodeOk Try.prog 0 (.block 0 (.loop (loopB 0 madrigallaw18_AllocHolds.code))) (madrigallaw18_AllocHolds_l0.J k X) :=
  loop_mk (c := madrigallaw18_AllocHolds_l0.ctx k) (ctx_ok (madrigallaw18_AllocHolds.rows k) _ _) rfl hm0 (fits_of (madrigallaw18_AllocHolds_l0.fits k) (fits_nil)) rfl madrigallaw18_AllocHolds_l0.hcv madrigallaw18_AllocHolds_l0.hex (fun _ => rfl) (madrigallaw18_AllocHolds_l0.run k) (exK := madrigallaw18_AllocHolds_l0.exK) (by intro X o k; rcases o with ⟨n, bits, s, t⟩ | t4 <;> rfl) k X
def madrigallaw18_AllocHolds.ps : List SV := [.int .i64, .int .i64]
def madrigallaw18_AllocHolds.bs : List (SB × Md) := []
def madrigallaw18_AllocHolds.cv : List Lf → Option (Int × Int)
  | [.i n, .i bits] => some (n, bits)
  | _ => none
def madrigallaw18_AllocHolds.un : (Int × Int) → List Lf
  | (n, bits) => [.i n, .i bits]
theorem madrigallaw18_AllocHolds.hcv : ∀ ls d, madrigallaw18_AllocHolds.cv ls = some d → ls = madrigallaw18_AllocHolds.un d := by
  intro ls d h; unfold madrigallaw18_AllocHolds.cv at h; split at h <;> first | (cases h; rfl) | cases h
def madrigallaw18_AllocHolds.r0 : Sk := { nt := 1, n0 := 0, slots := [(0, .bool)], blocks := [] }
def madrigallaw18_AllocHolds.z0 : List Lf → Option (Bool)
  | [.b r] => some r
  | _ => none
def madrigallaw18_AllocHolds.fins : List (Sk × (List Lf → Option (Bool))) := [(madrigallaw18_AllocHolds.r0, madrigallaw18_AllocHolds.z0)]
def madrigallaw18_AllocHolds.fx : (Bool) → Sk × List Lf
  | r => (madrigallaw18_AllocHolds.r0, [.b r])
def madrigallaw18_AllocHolds.outK (X : Type) (o : (Bool)) (k : AV → Heap → Option X) : Option X :=
  match o with
  | r => k (tget (fiS madrigallaw18_AllocHolds.r0 [.b r]).tmps 0) (fiS madrigallaw18_AllocHolds.r0 [.b r]).heap
theorem madrigallaw18_AllocHolds.hfx : FinOk 0 madrigallaw18_AllocHolds.fins madrigallaw18_AllocHolds.fx :=
  finOk_cons rfl rfl (by intro ls o h; unfold madrigallaw18_AllocHolds.z0 at h; split at h <;> first | (cases h; rfl) | cases h) (finOk_nil)
def madrigallaw18_AllocHolds.g (k : Nat) : (Int × Int) → Option (Bool)
  | (n, bits) => madrigallaw18_AllocHolds k n bits
def madrigallaw18_AllocHolds.J (k : Nat) : FC := fun X => callF madrigallaw18_AllocHolds.ps madrigallaw18_AllocHolds.bs (fun ls => (madrigallaw18_AllocHolds.cv ls).bind (madrigallaw18_AllocHolds.g k)) (madrigallaw18_AllocHolds.outK X)
noncomputable def madrigallaw18_AllocHolds.ctx (k : Nat) (X : Type) : Ctx X := mkCtx Try.prog (madrigallaw18_AllocHolds.T k) [(0, madrigallaw18_AllocHolds_l0.J k)] [] X
theorem madrigallaw18_AllocHolds.fits (k : Nat) : fitsL (madrigallaw18_AllocHolds.ctx k (Bool)) (bodyOf Try.f6) = [(.block 0 (.loop (loopB 0 madrigallaw18_AllocHolds.code)), madrigallaw18_AllocHolds_l0.J k (Bool))] := by kernel_rfl
theorem madrigallaw18_AllocHolds.run (k : Nat) (d : (Int × Int)) : evC (madrigallaw18_AllocHolds.ctx k (Bool)) (bodyOf Try.f6) (funcK Try.prog Try.f6.results.toList madrigallaw18_AllocHolds.fins) (fiA Try.f6.ntmps madrigallaw18_AllocHolds.ps madrigallaw18_AllocHolds.bs (madrigallaw18_AllocHolds.un d)) = madrigallaw18_AllocHolds.g k d := by
  obtain ⟨n, bits⟩ := d; kernel_rfl
theorem madrigallaw18_AllocHolds.ok (k : Nat) : CallOk Try.prog 6 (madrigallaw18_AllocHolds.J k) :=
  func_mk (P := Try.prog) (n0 := 0) (ps := madrigallaw18_AllocHolds.ps) (bs := madrigallaw18_AllocHolds.bs) (fins := madrigallaw18_AllocHolds.fins) (fx := madrigallaw18_AllocHolds.fx) (g := (madrigallaw18_AllocHolds.g k)) (cv := madrigallaw18_AllocHolds.cv) (un := madrigallaw18_AllocHolds.un) (c := madrigallaw18_AllocHolds.ctx k) (ctx_ok (madrigallaw18_AllocHolds.rows k) _ _) rfl hm0 Try.func6 (by kernel_rfl) (by kernel_rfl) rfl (fits_of (madrigallaw18_AllocHolds.fits k) (fits_cons (madrigallaw18_AllocHolds_l0.ok k _) (fits_nil))) (Nat.le_of_ble_eq_true (by kernel_rfl)) madrigallaw18_AllocHolds.hcv madrigallaw18_AllocHolds.hfx (madrigallaw18_AllocHolds.run k) (outK := madrigallaw18_AllocHolds.outK) (by intro X o k; rcases o with r <;> rfl)

-- madrigal/madrigallaw18.AllocLouder
def madrigallaw18_AllocLouder_l0 (k : Nat) : Nat → (Int × Int × Int × Int × Int × List Int × List Int) → Option (Int × Int × List Int × List Int) := itN fun rec d => match d with
  | (total, width, a, n, i, w, l) =>
    br (decide (i < n)) (
      need (((w ++ [width]).length) * 8 ≤ 140737488355328) <|
      need (((l ++ [a]).length) * 8 ≤ 140737488355328) <|
      rec (total, width, a, n, IntKind.i64.wrap (i + 1), w ++ [width], l ++ [a]))
    (
      some (total, n, w, l))
def madrigallaw18_AllocLouder_l2 (k : Nat) : Nat → (Int × Int × Int × List Int) → Option ((Unit) ⊕ (Bool)) := itN fun rec d => match d with
  | (total, n, i, y) =>
    br (decide (i < n)) (
      need (0 ≤ i ∧ i < (((y.length) : Nat) : Int)) <|
      need (n ≠ 0) <|
      br (decide ((y.getD (i.toNat) 0) < (IntKind.i64.wrap (total.tdiv n)))) (
        some (.inr false))
      (
        rec (total, n, IntKind.i64.wrap (i + 1), y)))
    (
      some (.inl ()))
def madrigallaw18_AllocLouder (k : Nat) (total : Int) (width : Int) (a : Int) (b : Int) (n : Int) : Option (Bool) :=
  (madrigallaw18_awake k).bind fun t19 =>
  br (!t19) (
    some false)
  (
    br (decide (total < 0)) (
      some true)
    (
      br (decide (5000 < total)) (
        some true)
      (
        br (decide (width < 1)) (
          some true)
        (
          br (decide (1000 < width)) (
            some true)
          (
            br (decide (a < b)) (
              some true)
            (
              br (decide (b < 0)) (
                some true)
              (
                br (decide (1000 < a)) (
                  some true)
                (
                  br (decide (n < 1)) (
                    some true)
                  (
                    br (decide (30 < n)) (
                      some true)
                    (
                      (alloc_Share k total [width, width] [a, b]).bind fun (t64_1, b0, b1, t64_0) =>
                      br (!decide (t64_1 = 0)) (
                        some false)
                      (
                        br (!decide ((((t64_0.length) : Nat) : Int) = 2)) (
                          some false)
                        (
                          need (0 ≤ (0 : Int) ∧ (0 : Int) < (((t64_0.length) : Nat) : Int)) <|
                          need (0 ≤ (1 : Int) ∧ (1 : Int) < (((t64_0.length) : Nat) : Int)) <|
                          br (decide ((t64_0.getD 0 0) < (t64_0.getD 1 0))) (
                            some false)
                          (
                            need (0 ≤ (0 : Int) ∧ (0 : Int) < (((t64_0.length) : Nat) : Int)) <|
                            need (0 ≤ (1 : Int) ∧ (1 : Int) < (((t64_0.length) : Nat) : Int)) <|
                            br (decide (1 < (IntKind.i64.wrap ((t64_0.getD 0 0) - (t64_0.getD 1 0))))) (
                              some false)
                            (
                              (madrigallaw18_AllocLouder_l0 k k (total, width, a, n, 0, [], [])).bind fun (total1, n1, w, l) =>
                              (alloc_Share k total1 w l).bind fun (t110_1, b0_1, b1_1, t110_0) =>
                              br (!decide (t110_1 = 0)) (
                                some false)
                              (
                                br (!decide ((((t110_0.length) : Nat) : Int) = n1)) (
                                  some false)
                                (
                                  (madrigallaw18_AllocLouder_l2 k k (total1, n1, 0, t110_0)).bind fun o => match o with
                                  | .inl () =>
                                    some true
                                  | .inr t10 =>
                                    some t10))))))))))))))))
noncomputable def madrigallaw18_AllocLouder.code : Code := bodyOf Try.f7
noncomputable def madrigallaw18_AllocLouder.T (k : Nat) : List Row := [⟨14, madrigallaw18_awake.ps, madrigallaw18_awake.bs, madrigallaw18_awake.J k⟩, ⟨15, alloc_Share.ps, alloc_Share.bs, alloc_Share.J k⟩]
theorem madrigallaw18_AllocLouder.rows (k : Nat) : RowsOk Try.prog (madrigallaw18_AllocLouder.T k) := rows_cons (madrigallaw18_awake.ok k) (rows_cons (alloc_Share.ok k) (rows_nil _))
def madrigallaw18_AllocLouder_l0.sk : Sk := { nt := 134, n0 := 0, slots := [(0, .int .i64), (1, .int .i64), (2, .int .i64), (4, .int .i64), (13, .whole 0), (14, .whole 1), (15, .int .i64)], blocks := [(.ints .i64, .own), (.ints .i64, .own)] }
def madrigallaw18_AllocLouder_l0.cv : List Lf → Option (Int × Int × Int × Int × Int × List Int × List Int)
  | [.i total, .i width, .i a, .i n, .i i, .li w, .li l] => some (total, width, a, n, i, w, l)
  | _ => none
def madrigallaw18_AllocLouder_l0.un : (Int × Int × Int × Int × Int × List Int × List Int) → List Lf
  | (total, width, a, n, i, w, l) => [.i total, .i width, .i a, .i n, .i i, .li w, .li l]
theorem madrigallaw18_AllocLouder_l0.hcv : ∀ ls d, madrigallaw18_AllocLouder_l0.cv ls = some d → ls = madrigallaw18_AllocLouder_l0.un d := by
  intro ls d h; unfold madrigallaw18_AllocLouder_l0.cv at h; split at h <;> first | (cases h; rfl) | cases h
def madrigallaw18_AllocLouder_l0.x0 : Sk := { nt := 134, n0 := 0, slots := [(0, .int .i64), (4, .int .i64), (13, .whole 0), (14, .whole 1)], blocks := [(.ints .i64, .own), (.ints .i64, .own)] }
def madrigallaw18_AllocLouder_l0.y0 : List Lf → Option (Int × Int × List Int × List Int)
  | [.i total, .i n, .li w, .li l] => some (total, n, w, l)
  | _ => none
def madrigallaw18_AllocLouder_l0.exits : List (Nat × Sk × (List Lf → Option (Int × Int × List Int × List Int))) := [(2, madrigallaw18_AllocLouder_l0.x0, madrigallaw18_AllocLouder_l0.y0)]
def madrigallaw18_AllocLouder_l0.ex : (Int × Int × List Int × List Int) → Nat × Sk × List Lf
  | (total, n, w, l) => (2, madrigallaw18_AllocLouder_l0.x0, [.i total, .i n, .li w, .li l])
def madrigallaw18_AllocLouder_l0.exK (X : Type) (o : (Int × Int × List Int × List Int)) (k : Exit → St → Option X) : Option X :=
  match o with
  | (total, n, w, l) => k .normal (fiS madrigallaw18_AllocLouder_l0.x0 [.i total, .i n, .li w, .li l])
theorem madrigallaw18_AllocLouder_l0.hex : ExOk 0 madrigallaw18_AllocLouder_l0.exits madrigallaw18_AllocLouder_l0.ex :=
  exOk_cons rfl (by intro ls o h; unfold madrigallaw18_AllocLouder_l0.y0 at h; split at h <;> first | (cases h; rfl) | cases h) (exOk_nil)
noncomputable def madrigallaw18_AllocLouder_l0.ctx (k : Nat) (X : Type) : Ctx X := mkCtx Try.prog (madrigallaw18_AllocLouder.T k) [] [] X
theorem madrigallaw18_AllocLouder_l0.fits (k : Nat) : fitsL (madrigallaw18_AllocLouder_l0.ctx k (Int × Int × List Int × List Int)) (loopB 0 madrigallaw18_AllocLouder.code) = [] := by kernel_rfl
def madrigallaw18_AllocLouder_l0.J (k : Nat) (X : Type) : Contract X := fun c s => (pt madrigallaw18_AllocLouder_l0.sk madrigallaw18_AllocLouder_l0.cv s).bind fun d => (madrigallaw18_AllocLouder_l0 k k d).bind fun o => madrigallaw18_AllocLouder_l0.exK X o c
theorem madrigallaw18_AllocLouder_l0.run (k : Nat) (n : Nat) (d : (Int × Int × Int × Int × Int × List Int × List Int)) : evC (madrigallaw18_AllocLouder_l0.ctx k (Int × Int × List Int × List Int)) (loopB 0 madrigallaw18_AllocLouder.code) (backK (fun s => (pt madrigallaw18_AllocLouder_l0.sk madrigallaw18_AllocLouder_l0.cv s).bind (madrigallaw18_AllocLouder_l0 k n)) madrigallaw18_AllocLouder_l0.exits) (fiS madrigallaw18_AllocLouder_l0.sk (madrigallaw18_AllocLouder_l0.un d)) = madrigallaw18_AllocLouder_l0 k (n + 1) d := by
  obtain ⟨total, width, a, n, i, w, l⟩ := d; kernel_rfl
theorem madrigallaw18_AllocLouder_l0.ok (k : Nat) (X : Type) : CodeOk Try.prog 0 (.block 0 (.loop (loopB 0 madrigallaw18_AllocLouder.code))) (madrigallaw18_AllocLouder_l0.J k X) :=
  loop_mk (c := madrigallaw18_AllocLouder_l0.ctx k) (ctx_ok (madrigallaw18_AllocLouder.rows k) _ _) rfl hm0 (fits_of (madrigallaw18_AllocLouder_l0.fits k) (fits_nil)) rfl madrigallaw18_AllocLouder_l0.hcv madrigallaw18_AllocLouder_l0.hex (fun _ => rfl) (madrigallaw18_AllocLouder_l0.run k) (exK := madrigallaw18_AllocLouder_l0.exK) (by intro X o k; rcases o with ⟨total, n, w, l⟩ <;> rfl) k X
def madrigallaw18_AllocLouder_l2.sk : Sk := { nt := 134, n0 := 0, slots := [(0, .int .i64), (4, .int .i64), (16, .whole 0), (18, .int .i64)], blocks := [(.ints .i64, .own)] }
def madrigallaw18_AllocLouder_l2.cv : List Lf → Option (Int × Int × Int × List Int)
  | [.i total, .i n, .i i, .li y] => some (total, n, i, y)
  | _ => none
def madrigallaw18_AllocLouder_l2.un : (Int × Int × Int × List Int) → List Lf
  | (total, n, i, y) => [.i total, .i n, .i i, .li y]
theorem madrigallaw18_AllocLouder_l2.hcv : ∀ ls d, madrigallaw18_AllocLouder_l2.cv ls = some d → ls = madrigallaw18_AllocLouder_l2.un d := by
  intro ls d h; unfold madrigallaw18_AllocLouder_l2.cv at h; split at h <;> first | (cases h; rfl) | cases h
def madrigallaw18_AllocLouder_l2.x0 : Sk := { nt := 134, n0 := 0, slots := [], blocks := [] }
def madrigallaw18_AllocLouder_l2.y0 : List Lf → Option ((Unit) ⊕ (Bool))
  | [] => some (.inl ())
  | _ => none
def madrigallaw18_AllocLouder_l2.x1 : Sk := { nt := 134, n0 := 0, slots := [(10, .bool)], blocks := [] }
def madrigallaw18_AllocLouder_l2.y1 : List Lf → Option ((Unit) ⊕ (Bool))
  | [.b t10] => some (.inr t10)
  | _ => none
def madrigallaw18_AllocLouder_l2.exits : List (Nat × Sk × (List Lf → Option ((Unit) ⊕ (Bool)))) := [(4, madrigallaw18_AllocLouder_l2.x0, madrigallaw18_AllocLouder_l2.y0), (1, madrigallaw18_AllocLouder_l2.x1, madrigallaw18_AllocLouder_l2.y1)]
def madrigallaw18_AllocLouder_l2.ex : ((Unit) ⊕ (Bool)) → Nat × Sk × List Lf
  | .inl () => (4, madrigallaw18_AllocLouder_l2.x0, [])
  | .inr t10 => (1, madrigallaw18_AllocLouder_l2.x1, [.b t10])
def madrigallaw18_AllocLouder_l2.exK (X : Type) (o : ((Unit) ⊕ (Bool))) (k : Exit → St → Option X) : Option X :=
  match o with
  | .inl () => k .normal (fiS madrigallaw18_AllocLouder_l2.x0 [])
  | .inr t10 => k .ret (fiS madrigallaw18_AllocLouder_l2.x1 [.b t10])
theorem madrigallaw18_AllocLouder_l2.hex : ExOk 0 madrigallaw18_AllocLouder_l2.exits madrigallaw18_AllocLouder_l2.ex :=
  exOk_cons rfl (by intro ls o h; unfold madrigallaw18_AllocLouder_l2.y0 at h; split at h <;> first | (cases h; rfl) | cases h) (exOk_cons rfl (by intro ls o h; unfold madrigallaw18_AllocLouder_l2.y1 at h; split at h <;> first | (cases h; rfl) | cases h) (exOk_nil))
noncomputable def madrigallaw18_AllocLouder_l2.ctx (k : Nat) (X : Type) : Ctx X := mkCtx Try.prog (madrigallaw18_AllocLouder.T k) [(0, madrigallaw18_AllocLouder_l0.J k)] [] X
theorem madrigallaw18_AllocLouder_l2.fits (k : Nat) : fitsL (madrigallaw18_AllocLouder_l2.ctx k ((Unit) ⊕ (Bool))) (loopB 2 madrigallaw18_AllocLouder.code) = [] := by kernel_rfl
def madrigallaw18_AllocLouder_l2.J (k : Nat) (X : Type) : Contract X := fun c s => (pt madrigallaw18_AllocLouder_l2.sk madrigallaw18_AllocLouder_l2.cv s).bind fun d => (madrigallaw18_AllocLouder_l2 k k d).bind fun o => madrigallaw18_AllocLouder_l2.exK X o c
theorem madrigallaw18_AllocLouder_l2.run (k : Nat) (n : Nat) (d : (Int × Int × Int × List Int)) : evC (madrigallaw18_AllocLouder_l2.ctx k ((Unit) ⊕ (Bool))) (loopB 2 madrigallaw18_AllocLouder.code) (backK (fun s => (pt madrigallaw18_AllocLouder_l2.sk madrigallaw18_AllocLouder_l2.cv s).bind (madrigallaw18_AllocLouder_l2 k n)) madrigallaw18_AllocLouder_l2.exits) (fiS madrigallaw18_AllocLouder_l2.sk (madrigallaw18_AllocLouder_l2.un d)) = madrigallaw18_AllocLouder_l2 k (n + 1) d := by
  obtain ⟨total, n, i, y⟩ := d; kernel_rfl
theorem madrigallaw18_AllocLouder_l2.ok (k : Nat) (X : Type) : CodeOk Try.prog 0 (.block 2 (.loop (loopB 2 madrigallaw18_AllocLouder.code))) (madrigallaw18_AllocLouder_l2.J k X) :=
  loop_mk (c := madrigallaw18_AllocLouder_l2.ctx k) (ctx_ok (madrigallaw18_AllocLouder.rows k) _ _) rfl hm0 (fits_of (madrigallaw18_AllocLouder_l2.fits k) (fits_nil)) rfl madrigallaw18_AllocLouder_l2.hcv madrigallaw18_AllocLouder_l2.hex (fun _ => rfl) (madrigallaw18_AllocLouder_l2.run k) (exK := madrigallaw18_AllocLouder_l2.exK) (by intro X o k; rcases o with ⟨⟩ | t10 <;> rfl) k X
def madrigallaw18_AllocLouder.ps : List SV := [.int .i64, .int .i64, .int .i64, .int .i64, .int .i64]
def madrigallaw18_AllocLouder.bs : List (SB × Md) := []
def madrigallaw18_AllocLouder.cv : List Lf → Option (Int × Int × Int × Int × Int)
  | [.i total, .i width, .i a, .i b, .i n] => some (total, width, a, b, n)
  | _ => none
def madrigallaw18_AllocLouder.un : (Int × Int × Int × Int × Int) → List Lf
  | (total, width, a, b, n) => [.i total, .i width, .i a, .i b, .i n]
theorem madrigallaw18_AllocLouder.hcv : ∀ ls d, madrigallaw18_AllocLouder.cv ls = some d → ls = madrigallaw18_AllocLouder.un d := by
  intro ls d h; unfold madrigallaw18_AllocLouder.cv at h; split at h <;> first | (cases h; rfl) | cases h
def madrigallaw18_AllocLouder.r0 : Sk := { nt := 1, n0 := 0, slots := [(0, .bool)], blocks := [] }
def madrigallaw18_AllocLouder.z0 : List Lf → Option (Bool)
  | [.b r] => some r
  | _ => none
def madrigallaw18_AllocLouder.fins : List (Sk × (List Lf → Option (Bool))) := [(madrigallaw18_AllocLouder.r0, madrigallaw18_AllocLouder.z0)]
def madrigallaw18_AllocLouder.fx : (Bool) → Sk × List Lf
  | r => (madrigallaw18_AllocLouder.r0, [.b r])
def madrigallaw18_AllocLouder.outK (X : Type) (o : (Bool)) (k : AV → Heap → Option X) : Option X :=
  match o with
  | r => k (tget (fiS madrigallaw18_AllocLouder.r0 [.b r]).tmps 0) (fiS madrigallaw18_AllocLouder.r0 [.b r]).heap
theorem madrigallaw18_AllocLouder.hfx : FinOk 0 madrigallaw18_AllocLouder.fins madrigallaw18_AllocLouder.fx :=
  finOk_cons rfl rfl (by intro ls o h; unfold madrigallaw18_AllocLouder.z0 at h; split at h <;> first | (cases h; rfl) | cases h) (finOk_nil)
def madrigallaw18_AllocLouder.g (k : Nat) : (Int × Int × Int × Int × Int) → Option (Bool)
  | (total, width, a, b, n) => madrigallaw18_AllocLouder k total width a b n
def madrigallaw18_AllocLouder.J (k : Nat) : FC := fun X => callF madrigallaw18_AllocLouder.ps madrigallaw18_AllocLouder.bs (fun ls => (madrigallaw18_AllocLouder.cv ls).bind (madrigallaw18_AllocLouder.g k)) (madrigallaw18_AllocLouder.outK X)
noncomputable def madrigallaw18_AllocLouder.ctx (k : Nat) (X : Type) : Ctx X := mkCtx Try.prog (madrigallaw18_AllocLouder.T k) [(2, madrigallaw18_AllocLouder_l2.J k), (0, madrigallaw18_AllocLouder_l0.J k)] [] X
theorem madrigallaw18_AllocLouder.fits (k : Nat) : fitsL (madrigallaw18_AllocLouder.ctx k (Bool)) (bodyOf Try.f7) = [(.block 0 (.loop (loopB 0 madrigallaw18_AllocLouder.code)), madrigallaw18_AllocLouder_l0.J k (Bool)), (.block 2 (.loop (loopB 2 madrigallaw18_AllocLouder.code)), madrigallaw18_AllocLouder_l2.J k (Bool))] := by kernel_rfl
theorem madrigallaw18_AllocLouder.run (k : Nat) (d : (Int × Int × Int × Int × Int)) : evC (madrigallaw18_AllocLouder.ctx k (Bool)) (bodyOf Try.f7) (funcK Try.prog Try.f7.results.toList madrigallaw18_AllocLouder.fins) (fiA Try.f7.ntmps madrigallaw18_AllocLouder.ps madrigallaw18_AllocLouder.bs (madrigallaw18_AllocLouder.un d)) = madrigallaw18_AllocLouder.g k d := by
  obtain ⟨total, width, a, b, n⟩ := d; kernel_rfl
theorem madrigallaw18_AllocLouder.ok (k : Nat) : CallOk Try.prog 7 (madrigallaw18_AllocLouder.J k) :=
  func_mk (P := Try.prog) (n0 := 0) (ps := madrigallaw18_AllocLouder.ps) (bs := madrigallaw18_AllocLouder.bs) (fins := madrigallaw18_AllocLouder.fins) (fx := madrigallaw18_AllocLouder.fx) (g := (madrigallaw18_AllocLouder.g k)) (cv := madrigallaw18_AllocLouder.cv) (un := madrigallaw18_AllocLouder.un) (c := madrigallaw18_AllocLouder.ctx k) (ctx_ok (madrigallaw18_AllocLouder.rows k) _ _) rfl hm0 Try.func7 (by kernel_rfl) (by kernel_rfl) rfl (fits_of (madrigallaw18_AllocLouder.fits k) (fits_cons (madrigallaw18_AllocLouder_l0.ok k _) (fits_cons (madrigallaw18_AllocLouder_l2.ok k _) (fits_nil)))) (Nat.le_of_ble_eq_true (by kernel_rfl)) madrigallaw18_AllocLouder.hcv madrigallaw18_AllocLouder.hfx (madrigallaw18_AllocLouder.run k) (outK := madrigallaw18_AllocLouder.outK) (by intro X o k; rcases o with r <;> rfl)

-- madrigal/madrigallaw18.AllocNothing
def madrigallaw18_AllocNothing_l0 (k : Nat) : Nat → (Int × Int × List Int × List Int × List Int) → Option ((Int × List Int × List Int) ⊕ (Bool × List Int × List Int)) := itN fun rec d => match d with
  | (bits, i, b0, b1, l) =>
    br (decide (i < (((l.length) : Nat) : Int))) (
      need (0 ≤ i ∧ i < (((l.length) : Nat) : Int)) <|
      br (!decide ((l.getD (i.toNat) 0) = 0)) (
        some (.inr (false, b0, b1)))
      (
        rec (bits, IntKind.i64.wrap (i + 1), b0, b1, l)))
    (
      some (.inl (bits, b0, b1)))
def madrigallaw18_AllocNothing (k : Nat) (bits : Int) (widths : List Int) (loud : List Int) : Option (Bool × List Int × List Int) :=
  (madrigallaw18_awake k).bind fun t10 =>
  br (!t10) (
    some (false, widths, loud))
  (
    (madrigallaw18_may k 0 widths loud).bind fun (t14, b0, b1) =>
    br (!t14) (
      some (true, widths, loud))
    (
      br (decide (bits < 0)) (
        some (true, widths, loud))
      (
        br (decide (1048576 < bits)) (
          some (true, widths, loud))
        (
          (alloc_Share k 0 widths loud).bind fun (t27_1, b0_1, b1_1, t27_0) =>
          br (!decide (t27_1 = 0)) (
            some (false, widths, loud))
          (
            br (!decide ((((t27_0.length) : Nat) : Int) = (((widths.length) : Nat) : Int))) (
              some (false, widths, loud))
            (
              (madrigallaw18_AllocNothing_l0 k k (bits, 0, widths, loud, t27_0)).bind fun o => match o with
              | .inl (bits1, b0_2, b1_2) =>
                (alloc_Pieces k 1).bind fun t50 =>
                (madrigallaw18_ints k t50 [1]).bind fun (t52, b0_3, b1_3) =>
                br t52 (
                  (alloc_Split k 1 bits1).bind fun t55 =>
                  (madrigallaw18_ints k t55 [bits1]).bind fun (t58, b0_4, b1_4) =>
                  br t58 (
                    (alloc_Pulses k 5 0).bind fun t61 =>
                    some (decide (t61 = 0), b0_2, b1_2))
                  (
                    some (false, b0_2, b1_2)))
                (
                  some (false, b0_2, b1_2))
              | .inr (t6, b0_5, b1_5) =>
                some (t6, b0_5, b1_5)))))))
noncomputable def madrigallaw18_AllocNothing.code : Code := bodyOf Try.f8
noncomputable def madrigallaw18_AllocNothing.T (k : Nat) : List Row := [⟨14, madrigallaw18_awake.ps, madrigallaw18_awake.bs, madrigallaw18_awake.J k⟩, ⟨19, madrigallaw18_may.ps, madrigallaw18_may.bs, madrigallaw18_may.J k⟩, ⟨15, alloc_Share.ps, alloc_Share.bs, alloc_Share.J k⟩, ⟨17, alloc_Pieces.ps, alloc_Pieces.bs, alloc_Pieces.J k⟩, ⟨20, madrigallaw18_ints.ps, madrigallaw18_ints.bs, madrigallaw18_ints.J k⟩, ⟨18, alloc_Split.ps, alloc_Split.bs, alloc_Split.J k⟩, ⟨16, alloc_Pulses.ps, alloc_Pulses.bs, alloc_Pulses.J k⟩]
theorem madrigallaw18_AllocNothing.rows (k : Nat) : RowsOk Try.prog (madrigallaw18_AllocNothing.T k) := rows_cons (madrigallaw18_awake.ok k) (rows_cons (madrigallaw18_may.ok k) (rows_cons (alloc_Share.ok k) (rows_cons (alloc_Pieces.ok k) (rows_cons (madrigallaw18_ints.ok k) (rows_cons (alloc_Split.ok k) (rows_cons (alloc_Pulses.ok k) (rows_nil _)))))))
def madrigallaw18_AllocNothing_l0.sk : Sk := { nt := 64, n0 := 2, slots := [(2, .int .i64), (7, .whole 2), (9, .int .i64)], blocks := [(.ints .i64, .ro), (.ints .i64, .ro), (.ints .i64, .own)] }
def madrigallaw18_AllocNothing_l0.cv : List Lf → Option (Int × Int × List Int × List Int × List Int)
  | [.i bits, .i i, .li b0, .li b1, .li l] => some (bits, i, b0, b1, l)
  | _ => none
def madrigallaw18_AllocNothing_l0.un : (Int × Int × List Int × List Int × List Int) → List Lf
  | (bits, i, b0, b1, l) => [.i bits, .i i, .li b0, .li b1, .li l]
theorem madrigallaw18_AllocNothing_l0.hcv : ∀ ls d, madrigallaw18_AllocNothing_l0.cv ls = some d → ls = madrigallaw18_AllocNothing_l0.un d := by
  intro ls d h; unfold madrigallaw18_AllocNothing_l0.cv at h; split at h <;> first | (cases h; rfl) | cases h
def madrigallaw18_AllocNothing_l0.x0 : Sk := { nt := 64, n0 := 2, slots := [(2, .int .i64)], blocks := [(.ints .i64, .ro), (.ints .i64, .ro)] }
def madrigallaw18_AllocNothing_l0.y0 : List Lf → Option ((Int × List Int × List Int) ⊕ (Bool × List Int × List Int))
  | [.i bits, .li b0, .li b1] => some (.inl (bits, b0, b1))
  | _ => none
def madrigallaw18_AllocNothing_l0.x1 : Sk := { nt := 64, n0 := 2, slots := [(6, .bool)], blocks := [(.ints .i64, .ro), (.ints .i64, .ro)] }
def madrigallaw18_AllocNothing_l0.y1 : List Lf → Option ((Int × List Int × List Int) ⊕ (Bool × List Int × List Int))
  | [.b t6, .li b0, .li b1] => some (.inr (t6, b0, b1))
  | _ => none
def madrigallaw18_AllocNothing_l0.exits : List (Nat × Sk × (List Lf → Option ((Int × List Int × List Int) ⊕ (Bool × List Int × List Int)))) := [(2, madrigallaw18_AllocNothing_l0.x0, madrigallaw18_AllocNothing_l0.y0), (1, madrigallaw18_AllocNothing_l0.x1, madrigallaw18_AllocNothing_l0.y1)]
def madrigallaw18_AllocNothing_l0.ex : ((Int × List Int × List Int) ⊕ (Bool × List Int × List Int)) → Nat × Sk × List Lf
  | .inl (bits, b0, b1) => (2, madrigallaw18_AllocNothing_l0.x0, [.i bits, .li b0, .li b1])
  | .inr (t6, b0, b1) => (1, madrigallaw18_AllocNothing_l0.x1, [.b t6, .li b0, .li b1])
def madrigallaw18_AllocNothing_l0.exK (X : Type) (o : ((Int × List Int × List Int) ⊕ (Bool × List Int × List Int))) (k : Exit → St → Option X) : Option X :=
  match o with
  | .inl (bits, b0, b1) => k .normal (fiS madrigallaw18_AllocNothing_l0.x0 [.i bits, .li b0, .li b1])
  | .inr (t6, b0, b1) => k .ret (fiS madrigallaw18_AllocNothing_l0.x1 [.b t6, .li b0, .li b1])
theorem madrigallaw18_AllocNothing_l0.hex : ExOk 2 madrigallaw18_AllocNothing_l0.exits madrigallaw18_AllocNothing_l0.ex :=
  exOk_cons rfl (by intro ls o h; unfold madrigallaw18_AllocNothing_l0.y0 at h; split at h <;> first | (cases h; rfl) | cases h) (exOk_cons rfl (by intro ls o h; unfold madrigallaw18_AllocNothing_l0.y1 at h; split at h <;> first | (cases h; rfl) | cases h) (exOk_nil))
noncomputable def madrigallaw18_AllocNothing_l0.ctx (k : Nat) (X : Type) : Ctx X := mkCtx Try.prog (madrigallaw18_AllocNothing.T k) [] [] X
theorem madrigallaw18_AllocNothing_l0.fits (k : Nat) : fitsL (madrigallaw18_AllocNothing_l0.ctx k ((Int × List Int × List Int) ⊕ (Bool × List Int × List Int))) (loopB 0 madrigallaw18_AllocNothing.code) = [] := by kernel_rfl
def madrigallaw18_AllocNothing_l0.J (k : Nat) (X : Type) : Contract X := fun c s => (pt madrigallaw18_AllocNothing_l0.sk madrigallaw18_AllocNothing_l0.cv s).bind fun d => (madrigallaw18_AllocNothing_l0 k k d).bind fun o => madrigallaw18_AllocNothing_l0.exK X o c
theorem madrigallaw18_AllocNothing_l0.run (k : Nat) (n : Nat) (d : (Int × Int × List Int × List Int × List Int)) : evC (madrigallaw18_AllocNothing_l0.ctx k ((Int × List Int × List Int) ⊕ (Bool × List Int × List Int))) (loopB 0 madrigallaw18_AllocNothing.code) (backK (fun s => (pt madrigallaw18_AllocNothing_l0.sk madrigallaw18_AllocNothing_l0.cv s).bind (madrigallaw18_AllocNothing_l0 k n)) madrigallaw18_AllocNothing_l0.exits) (fiS madrigallaw18_AllocNothing_l0.sk (madrigallaw18_AllocNothing_l0.un d)) = madrigallaw18_AllocNothing_l0 k (n + 1) d := by
  obtain ⟨bits, i, b0, b1, l⟩ := d; kernel_rfl
theorem madrigallaw18_AllocNothing_l0.ok (k : Nat) (X : Type) : CodeOk Try.prog 2 (.block 0 (.loop (loopB 0 madrigallaw18_AllocNothing.code))) (madrigallaw18_AllocNothing_l0.J k X) :=
  loop_mk (c := madrigallaw18_AllocNothing_l0.ctx k) (ctx_ok (madrigallaw18_AllocNothing.rows k) _ _) rfl hm0 (fits_of (madrigallaw18_AllocNothing_l0.fits k) (fits_nil)) rfl madrigallaw18_AllocNothing_l0.hcv madrigallaw18_AllocNothing_l0.hex (fun _ => rfl) (madrigallaw18_AllocNothing_l0.run k) (exK := madrigallaw18_AllocNothing_l0.exK) (by intro X o k; rcases o with ⟨bits, b0, b1⟩ | ⟨t6, b0, b1⟩ <;> rfl) k X
def madrigallaw18_AllocNothing.ps : List SV := [.whole 0, .whole 1, .int .i64]
def madrigallaw18_AllocNothing.bs : List (SB × Md) := [(.ints .i64, .ro), (.ints .i64, .ro)]
def madrigallaw18_AllocNothing.cv : List Lf → Option (Int × List Int × List Int)
  | [.i bits, .li widths, .li loud] => some (bits, widths, loud)
  | _ => none
def madrigallaw18_AllocNothing.un : (Int × List Int × List Int) → List Lf
  | (bits, widths, loud) => [.i bits, .li widths, .li loud]
theorem madrigallaw18_AllocNothing.hcv : ∀ ls d, madrigallaw18_AllocNothing.cv ls = some d → ls = madrigallaw18_AllocNothing.un d := by
  intro ls d h; unfold madrigallaw18_AllocNothing.cv at h; split at h <;> first | (cases h; rfl) | cases h
def madrigallaw18_AllocNothing.r0 : Sk := { nt := 1, n0 := 2, slots := [(0, .bool)], blocks := [(.ints .i64, .ro), (.ints .i64, .ro)] }
def madrigallaw18_AllocNothing.z0 : List Lf → Option (Bool × List Int × List Int)
  | [.b r, .li b0, .li b1] => some (r, b0, b1)
  | _ => none
def madrigallaw18_AllocNothing.fins : List (Sk × (List Lf → Option (Bool × List Int × List Int))) := [(madrigallaw18_AllocNothing.r0, madrigallaw18_AllocNothing.z0)]
def madrigallaw18_AllocNothing.fx : (Bool × List Int × List Int) → Sk × List Lf
  | (r, b0, b1) => (madrigallaw18_AllocNothing.r0, [.b r, .li b0, .li b1])
def madrigallaw18_AllocNothing.outK (X : Type) (o : (Bool × List Int × List Int)) (k : AV → Heap → Option X) : Option X :=
  match o with
  | (r, b0, b1) => k (tget (fiS madrigallaw18_AllocNothing.r0 [.b r, .li b0, .li b1]).tmps 0) (fiS madrigallaw18_AllocNothing.r0 [.b r, .li b0, .li b1]).heap
theorem madrigallaw18_AllocNothing.hfx : FinOk 2 madrigallaw18_AllocNothing.fins madrigallaw18_AllocNothing.fx :=
  finOk_cons rfl rfl (by intro ls o h; unfold madrigallaw18_AllocNothing.z0 at h; split at h <;> first | (cases h; rfl) | cases h) (finOk_nil)
def madrigallaw18_AllocNothing.g (k : Nat) : (Int × List Int × List Int) → Option (Bool × List Int × List Int)
  | (bits, widths, loud) => madrigallaw18_AllocNothing k bits widths loud
def madrigallaw18_AllocNothing.J (k : Nat) : FC := fun X => callF madrigallaw18_AllocNothing.ps madrigallaw18_AllocNothing.bs (fun ls => (madrigallaw18_AllocNothing.cv ls).bind (madrigallaw18_AllocNothing.g k)) (madrigallaw18_AllocNothing.outK X)
noncomputable def madrigallaw18_AllocNothing.ctx (k : Nat) (X : Type) : Ctx X := mkCtx Try.prog (madrigallaw18_AllocNothing.T k) [(0, madrigallaw18_AllocNothing_l0.J k)] [] X
theorem madrigallaw18_AllocNothing.fits (k : Nat) : fitsL (madrigallaw18_AllocNothing.ctx k (Bool × List Int × List Int)) (bodyOf Try.f8) = [(.block 0 (.loop (loopB 0 madrigallaw18_AllocNothing.code)), madrigallaw18_AllocNothing_l0.J k (Bool × List Int × List Int))] := by kernel_rfl
theorem madrigallaw18_AllocNothing.run (k : Nat) (d : (Int × List Int × List Int)) : evC (madrigallaw18_AllocNothing.ctx k (Bool × List Int × List Int)) (bodyOf Try.f8) (funcK Try.prog Try.f8.results.toList madrigallaw18_AllocNothing.fins) (fiA Try.f8.ntmps madrigallaw18_AllocNothing.ps madrigallaw18_AllocNothing.bs (madrigallaw18_AllocNothing.un d)) = madrigallaw18_AllocNothing.g k d := by
  obtain ⟨bits, widths, loud⟩ := d; kernel_rfl
theorem madrigallaw18_AllocNothing.ok (k : Nat) : CallOk Try.prog 8 (madrigallaw18_AllocNothing.J k) :=
  func_mk (P := Try.prog) (n0 := 2) (ps := madrigallaw18_AllocNothing.ps) (bs := madrigallaw18_AllocNothing.bs) (fins := madrigallaw18_AllocNothing.fins) (fx := madrigallaw18_AllocNothing.fx) (g := (madrigallaw18_AllocNothing.g k)) (cv := madrigallaw18_AllocNothing.cv) (un := madrigallaw18_AllocNothing.un) (c := madrigallaw18_AllocNothing.ctx k) (ctx_ok (madrigallaw18_AllocNothing.rows k) _ _) rfl hm0 Try.func8 (by kernel_rfl) (by kernel_rfl) rfl (fits_of (madrigallaw18_AllocNothing.fits k) (fits_cons (madrigallaw18_AllocNothing_l0.ok k _) (fits_nil))) (Nat.le_of_ble_eq_true (by kernel_rfl)) madrigallaw18_AllocNothing.hcv madrigallaw18_AllocNothing.hfx (madrigallaw18_AllocNothing.run k) (outK := madrigallaw18_AllocNothing.outK) (by intro X o k; rcases o with ⟨r, b0, b1⟩ <;> rfl)

end Go.Proofs.Ytdimjdlomgpbgaa
