/- Concrete runs: calls that are told by contracts. No condition. -/
import Derived.Test.YtnhbohcjmdfmiaaGreatZH
import Derived.Test.YtnhbohcjmdfmiaaGreatC23
set_option linter.unusedVariables false
set_option linter.unusedSimpArgs false
namespace Go.Proofs.YtnhbohcjmdfmiaaGreat
open Go Go.Ab Go.Proofs
noncomputable section
def hkL (f : FuncId) (args : List CV) (l : List (Nat × (List CV → Option CV))) : Option CV := List.rec none (fun p _ ih => Prod.rec (fun j g => Bool.rec ih (g args) (Nat.beq j f)) p) l
def hkM (m : Nat) (l : List (Nat × (List CV → Option CV))) : FuncId → List CV → Option CV := fun f args => Bool.rec none (hkL f args l) (Nat.beq (Nat.land (Nat.shiftRight m f) 1) 1)
def HkAt (P : Program) (f : FuncId) (g : List CV → Option CV) : Prop := ∀ args v, g args = some v → ∀ K q, CallStep P f (args.map CV.av) K q v.av []
theorem hkM_ok {P : Program} {m : Nat} {l : List (Nat × (List CV → Option CV))} (h : ∀ p ∈ l, HkAt P p.1 p.2) : HkOk P (hkU (hkM m l)) := by
  refine hkU_ok fun f args v hv => ?_
  have h1 : hkL f args l = some v := by
    unfold hkM at hv
    cases hb : Nat.beq (Nat.land (Nat.shiftRight m f) 1) 1 with
    | false => rw [hb] at hv; cases hv
    | true => rw [hb] at hv; exact hv
  clear hv
  induction l with
  | nil => cases h1
  | cons p l ih =>
    obtain ⟨j, g⟩ := p
    have e : hkL f args ((j, g) :: l) = cond (Nat.beq j f) (g args) (hkL f args l) := by
      show (Bool.rec _ _ (Nat.beq j f) : Option CV) = _
      cases Nat.beq j f <;> rfl
    rw [e] at h1
    cases hb : Nat.beq j f with
    | false => rw [hb] at h1; exact ih (fun p hp => h p (List.mem_cons_of_mem _ hp)) h1
    | true =>
      rw [hb] at h1
      obtain rfl := Nat.eq_of_beq_eq_true hb
      exact h _ List.mem_cons_self args v h1
def i1 (f : Int → Option CV) (l : List CV) : Option CV := List.rec none (fun v t _ => List.rec (CV.rec (fun a => f a) (fun _ => none) (fun _ _ _ => none) (fun _ => none) (fun _ _ _ => none) (fun _ _ _ _ => none) (fun _ => none) v) (fun _ _ _ => none) t) l
def iX (f : Int → List CV → Option CV) (l : List CV) : Option CV := List.rec none (fun v t _ => CV.rec (fun a => f a t) (fun _ => none) (fun _ _ _ => none) (fun _ => none) (fun _ _ _ => none) (fun _ _ _ _ => none) (fun _ => none) v) l
theorem iX_inv {f : Int → List CV → Option CV} {l : List CV} {v : CV} (h : iX f l = some v) : ∃ a t, l = .i a :: t ∧ f a t = some v := by
  cases l with
  | nil => cases h
  | cons x t => cases x <;> first | cases h; done | exact ⟨_, _, rfl, h⟩
theorem i1_inv {f : Int → Option CV} {l : List CV} {v : CV} (h : i1 f l = some v) : ∃ a, l = [.i a] ∧ f a = some v := by
  cases l with
  | nil => cases h
  | cons x t =>
    cases t with
    | cons y t => cases h
    | nil => cases x <;> first | cases h; done | exact ⟨_, rfl, h⟩
/-- a contract of numbers -/
theorem int_at {P : Program} {f : FuncId} {J : ∀ X : Type, List AV → Heap → Nat → (AV → Delta → Option X) → Option X} (h : CallOk P f J) {args : List AV} {z : Int} (hj : ∀ K q, J (AV × Delta) args K q (fun v D => some (v, D)) = some (.int .i64 z, [])) (K : Heap) (q : Nat) : CallStep P f args K q (.int .i64 z) [] := by
  obtain ⟨v, D, h1, h2⟩ := h (AV × Delta) args K q (fun v D => some (v, D)) (.int .i64 z, []) (hj K q)
  cases h1
  exact h2
theorem mul_j (a b s : Int) (K : Heap) (q : Nat) : (fix_Mul.fn).r.J (AV × Delta) [.int .i64 a, .int .i64 b, .int .i64 s] K q (fun v D => some (v, D)) = (fix_Mul a b s).bind fun v => some (.int .i64 v, []) := by kernel_rfl
theorem div_j (a b s : Int) (K : Heap) (q : Nat) : (fix_Div.fn).r.J (AV × Delta) [.int .i64 a, .int .i64 b, .int .i64 s] K q (fun v D => some (v, D)) = (fix_Div a b s).bind fun v => some (.int .i64 v, []) := by kernel_rfl
theorem clamp_j (a b s : Int) (K : Heap) (q : Nat) : (fix_Clamp.fn).r.J (AV × Delta) [.int .i64 a, .int .i64 b, .int .i64 s] K q (fun v D => some (v, D)) = (fix_Clamp a b s).bind fun v => some (.int .i64 v, []) := by kernel_rfl
theorem sat_j (a : Int) (K : Heap) (q : Nat) : (fix_Sat16.fn).r.J (AV × Delta) [.int .i64 a] K q (fun v D => some (v, D)) = (fix_Sat16 a).bind fun v => some (.int .i64 v, []) := by kernel_rfl
theorem factor_j (a : Int) (K : Heap) (q : Nat) : (fix_factor.fn).r.J (AV × Delta) [.int .i64 a] K q (fun v D => some (v, D)) = (fix_factor a).bind fun v => some (.int .i64 v, []) := by kernel_rfl

def hMul : List CV → Option CV := iX fun a => iX fun b => i1 fun s => some (.i (mulH a b s))
def hDiv : List CV → Option CV := iX fun a => iX fun b => i1 fun s => Option.rec none (fun v => some (.i v)) (fix_Div a b s)
def hClamp : List CV → Option CV := iX fun a => iX fun b => i1 fun s => some (.i (clampI a b s))
def hSat : List CV → Option CV := i1 fun a => some (.i (clampI a (-32768) 32767))
def hFac : List CV → Option CV := i1 fun a => some (.i (facI a))
theorem hMul_ok : HkAt Tryz.prog 120 hMul := by
  intro args v h K q
  obtain ⟨a, t, e1, h1⟩ := iX_inv h
  obtain ⟨b, t2, e2, h2⟩ := iX_inv h1
  obtain ⟨s, e3, h3⟩ := i1_inv h2
  subst e3 e2 e1
  cases h3
  exact int_at fix_Mul.fn.ok (fun K q => by show (fix_Mul.fn).r.J (AV × Delta) [.int .i64 a, .int .i64 b, .int .i64 s] K q _ = _; rw [mul_j, mul_eq]; rfl) K q
theorem hDiv_ok : HkAt Tryz.prog 226 hDiv := by
  intro args v h K q
  obtain ⟨a, t, e1, h1⟩ := iX_inv h
  obtain ⟨b, t2, e2, h2⟩ := iX_inv h1
  obtain ⟨s, e3, h3⟩ := i1_inv h2
  subst e3 e2 e1
  cases hd : fix_Div a b s with
  | none => rw [hd] at h3; cases h3
  | some z =>
    rw [hd] at h3
    cases h3
    exact int_at fix_Div.fn.ok (fun K q => by show (fix_Div.fn).r.J (AV × Delta) [.int .i64 a, .int .i64 b, .int .i64 s] K q _ = _; rw [div_j, hd]; rfl) K q
theorem hClamp_ok : HkAt Tryz.prog 122 hClamp := by
  intro args v h K q
  obtain ⟨a, t, e1, h1⟩ := iX_inv h
  obtain ⟨b, t2, e2, h2⟩ := iX_inv h1
  obtain ⟨s, e3, h3⟩ := i1_inv h2
  subst e3 e2 e1
  cases h3
  exact int_at fix_Clamp.fn.ok (fun K q => by show (fix_Clamp.fn).r.J (AV × Delta) [.int .i64 a, .int .i64 b, .int .i64 s] K q _ = _; rw [clamp_j, clamp_eq]; rfl) K q
theorem hSat_ok : HkAt Tryz.prog 67 hSat := by
  intro args v h K q
  obtain ⟨a, e1, h1⟩ := i1_inv h
  subst e1
  cases h1
  exact int_at fix_Sat16.fn.ok (fun K q => by show (fix_Sat16.fn).r.J (AV × Delta) [.int .i64 a] K q _ = _; rw [sat_j, sat_eq]; rfl) K q
theorem hFac_ok : HkAt Tryz.prog 165 hFac := by
  intro args v h K q
  obtain ⟨a, e1, h1⟩ := i1_inv h
  subst e1
  cases h1
  exact int_at fix_factor.fn.ok (fun K q => by show (fix_factor.fn).r.J (AV × Delta) [.int .i64 a] K q _ = _; rw [factor_j, (fac_eq a).1]; rfl) K q
def hk1 : FuncId → List CV → Option CV := hkM (2 ^ 120 + 2 ^ 226 + 2 ^ 122 + 2 ^ 67 + 2 ^ 165) [(120, hMul), (122, hClamp), (165, hFac), (67, hSat), (226, hDiv)]
theorem hk1_ok : HkOk Tryz.prog (hkU hk1) := hkM_ok fun p hp => by
  simp only [List.mem_cons, List.not_mem_nil, or_false] at hp
  rcases hp with rfl | rfl | rfl | rfl | rfl
  · exact hMul_ok
  · exact hClamp_ok
  · exact hFac_ok
  · exact hSat_ok
  · exact hDiv_ok
end
end Go.Proofs.YtnhbohcjmdfmiaaGreat
