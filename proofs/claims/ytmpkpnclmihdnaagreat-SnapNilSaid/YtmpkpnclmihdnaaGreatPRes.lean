/-
  Plain laws of resources: what the program's and the document's functions tell, by definition. Own text.
-/
import Derived.Test.YtmpkpnclmihdnaaGreatPWord
import Derived.Test.YtmpkpnclmihdnaaGreatPLoop
namespace Go.Proofs.YtmpkpnclmihdnaaGreat.M
open Go Go.Proofs Go.Proofs.YtmpkpnclmihdnaaGreat.V
set_option linter.unusedVariables false

/-! resources -/
def rM : Int := 1125899906842624
def rOK (x : Int) : Bool := decide (0 ≤ x) && decide (x ≤ 1125899906842624)
def resOK (a : T_api_Res) : Bool := rOK a.Cpu && (rOK a.Mem && (rOK a.Disk && (rOK a.Pods && rOK a.Dev)))
def r0 : T_api_Res := ⟨0, 0, 0, 0, 0⟩
def radd (a b : T_api_Res) : T_api_Res := ⟨a.Cpu + b.Cpu, a.Mem + b.Mem, a.Disk + b.Disk, a.Pods + b.Pods, a.Dev + b.Dev⟩
def rsub (a b : T_api_Res) : T_api_Res := ⟨a.Cpu - b.Cpu, a.Mem - b.Mem, a.Disk - b.Disk, a.Pods - b.Pods, a.Dev - b.Dev⟩
def rmin (a b : T_api_Res) : T_api_Res := ⟨min a.Cpu b.Cpu, min a.Mem b.Mem, min a.Disk b.Disk, min a.Pods b.Pods, min a.Dev b.Dev⟩
def rle (a b : T_api_Res) : Bool := decide (a.Cpu ≤ b.Cpu) && (decide (a.Mem ≤ b.Mem) && (decide (a.Disk ≤ b.Disk) && (decide (a.Pods ≤ b.Pods) && decide (a.Dev ≤ b.Dev))))

theorem rOK_iff (x : Int) : rOK x = true ↔ 0 ≤ x ∧ x ≤ 1125899906842624 := by unfold rOK; simp
theorem resOK_iff (a : T_api_Res) : resOK a = true ↔ (0 ≤ a.Cpu ∧ a.Cpu ≤ 1125899906842624) ∧ (0 ≤ a.Mem ∧ a.Mem ≤ 1125899906842624) ∧ (0 ≤ a.Disk ∧ a.Disk ≤ 1125899906842624) ∧ (0 ≤ a.Pods ∧ a.Pods ≤ 1125899906842624) ∧ (0 ≤ a.Dev ∧ a.Dev ≤ 1125899906842624) := by
  unfold resOK; simp only [Bool.and_eq_true, rOK_iff]
theorem rle_iff (a b : T_api_Res) : rle a b = true ↔ a.Cpu ≤ b.Cpu ∧ a.Mem ≤ b.Mem ∧ a.Disk ≤ b.Disk ∧ a.Pods ≤ b.Pods ∧ a.Dev ≤ b.Dev := by
  unfold rle; simp only [Bool.and_eq_true, decide_eq_true_eq]

theorem fu6 : ∃ n, FU = n + 6 := ⟨1152921504606846970, rfl⟩

theorem rbad (x : Int) : ((decide (x < (0 : Int))) || (decide (x > (1125899906842624 : Int)))) = !rOK x := by
  unfold rOK
  by_cases h1 : x < 0 <;> by_cases h2 : x > 1125899906842624 <;> simp [h1, h2] <;> omega

theorem res_Right_eq (a : T_api_Res) : res_Right a = some (resOK a) := by
  obtain ⟨n, hn⟩ := fu6
  unfold res_Right res_row
  rw [hn]
  have e : res_Right.l1 (⟨a.Cpu, a.Mem, a.Disk, a.Pods, a.Dev⟩ : Arr5_Int) (n + 6) 0 =
      if ((decide (a.Cpu < (0 : Int))) || (decide (a.Cpu > (1125899906842624 : Int)))) = true then some (Out.ret false) else
      if ((decide (a.Mem < (0 : Int))) || (decide (a.Mem > (1125899906842624 : Int)))) = true then some (Out.ret false) else
      if ((decide (a.Disk < (0 : Int))) || (decide (a.Disk > (1125899906842624 : Int)))) = true then some (Out.ret false) else
      if ((decide (a.Pods < (0 : Int))) || (decide (a.Pods > (1125899906842624 : Int)))) = true then some (Out.ret false) else
      if ((decide (a.Dev < (0 : Int))) || (decide (a.Dev > (1125899906842624 : Int)))) = true then some (Out.ret false) else some (Out.go ()) := rfl
  simp only [Option.bind_some]
  rw [e]
  simp only [rbad]
  unfold resOK
  cases rOK a.Cpu <;> cases rOK a.Mem <;> cases rOK a.Disk <;> cases rOK a.Pods <;> cases rOK a.Dev <;> rfl

theorem ref04_one_eq (n : Int) : ref04_one n = some (rOK n) := by
  unfold ref04_one rOK
  simp only [ge_iff_le]
theorem ref04_Right_eq (a : T_api_Res) : ref04_Right a = some (resOK a) := by
  unfold ref04_Right resOK
  simp only [ref04_one_eq, Option.bind_some]
  cases rOK a.Cpu <;> cases rOK a.Mem <;> cases rOK a.Disk <;> cases rOK a.Pods <;> cases rOK a.Dev <;> rfl

theorem w_add {x y : Int} (hx : rOK x = true) (hy : rOK y = true) : IntKind.i64.wrap (x + y) = x + y := by
  rw [rOK_iff] at hx hy; exact w_eq (by omega) (by omega)
theorem w_sub {x y : Int} (hx : rOK x = true) (hy : rOK y = true) : IntKind.i64.wrap (x - y) = x - y := by
  rw [rOK_iff] at hx hy; exact w_eq (by omega) (by omega)

theorem resOK_split {a : T_api_Res} (h : resOK a = true) : rOK a.Cpu = true ∧ rOK a.Mem = true ∧ rOK a.Disk = true ∧ rOK a.Pods = true ∧ rOK a.Dev = true := by
  unfold resOK at h; simpa only [Bool.and_eq_true] using h

theorem res_Add_eq (a b : T_api_Res) : res_Add a b = some (if (resOK a && resOK b) = true then (if resOK (radd a b) = true then (radd a b, 0) else (r0, 10)) else (r0, 1)) := by
  unfold res_Add res_each_res_Add_1
  simp only [res_Right_eq, Option.bind_some]
  cases ha : resOK a with
  | false => rfl
  | true =>
    cases hb : resOK b with
    | false => rfl
    | true =>
      obtain ⟨a1, a2, a3, a4, a5⟩ := resOK_split ha
      obtain ⟨b1, b2, b3, b4, b5⟩ := resOK_split hb
      obtain ⟨n, hn⟩ := fu6
      unfold res_row
      rw [hn]
      have e : res_each_res_Add_1.l1 ((⟨a.Cpu, a.Mem, a.Disk, a.Pods, a.Dev⟩ : Arr5_Int), (⟨b.Cpu, b.Mem, b.Disk, b.Pods, b.Dev⟩ : Arr5_Int)) (n + 6) (⟨a.Cpu, a.Mem, a.Disk, a.Pods, a.Dev⟩ : Arr5_Int) 0 =
        some (⟨IntKind.i64.wrap (a.Cpu + b.Cpu), IntKind.i64.wrap (a.Mem + b.Mem), IntKind.i64.wrap (a.Disk + b.Disk), IntKind.i64.wrap (a.Pods + b.Pods), IntKind.i64.wrap (a.Dev + b.Dev)⟩ : Arr5_Int) := rfl
      simp only [Bool.not_true, Bool.false_eq_true, if_false, Option.bind_some, e, w_add a1 b1, w_add a2 b2, w_add a3 b3, w_add a4 b4, w_add a5 b5, res_back, res_Right_eq, Bool.and_self, if_true]
      show (if resOK (radd a b) = true then some (radd a b, (0 : Int)) else some (r0, 10)).bind _ = _
      cases resOK (radd a b) <;> rfl

theorem res_Sub_eq (a b : T_api_Res) : res_Sub a b = some (if (resOK a && resOK b) = true then (if resOK (rsub a b) = true then (rsub a b, 0) else (r0, 11)) else (r0, 1)) := by
  unfold res_Sub res_each_res_Sub_1
  simp only [res_Right_eq, Option.bind_some]
  cases ha : resOK a with
  | false => rfl
  | true =>
    cases hb : resOK b with
    | false => rfl
    | true =>
      obtain ⟨a1, a2, a3, a4, a5⟩ := resOK_split ha
      obtain ⟨b1, b2, b3, b4, b5⟩ := resOK_split hb
      obtain ⟨n, hn⟩ := fu6
      unfold res_row
      rw [hn]
      have e : res_each_res_Sub_1.l1 ((⟨a.Cpu, a.Mem, a.Disk, a.Pods, a.Dev⟩ : Arr5_Int), (⟨b.Cpu, b.Mem, b.Disk, b.Pods, b.Dev⟩ : Arr5_Int)) (n + 6) (⟨a.Cpu, a.Mem, a.Disk, a.Pods, a.Dev⟩ : Arr5_Int) 0 =
        some (⟨IntKind.i64.wrap (a.Cpu - b.Cpu), IntKind.i64.wrap (a.Mem - b.Mem), IntKind.i64.wrap (a.Disk - b.Disk), IntKind.i64.wrap (a.Pods - b.Pods), IntKind.i64.wrap (a.Dev - b.Dev)⟩ : Arr5_Int) := rfl
      simp only [Bool.not_true, Bool.false_eq_true, if_false, Option.bind_some, e, w_sub a1 b1, w_sub a2 b2, w_sub a3 b3, w_sub a4 b4, w_sub a5 b5, res_back, res_Right_eq, Bool.and_self, if_true]
      show (if resOK (rsub a b) = true then some (rsub a b, (0 : Int)) else some (r0, 11)).bind _ = _
      cases resOK (rsub a b) <;> rfl

theorem resOK_min {a b : T_api_Res} (ha : resOK a = true) (hb : resOK b = true) : resOK (rmin a b) = true := by
  rw [resOK_iff] at ha hb ⊢
  unfold rmin
  simp only
  omega

theorem res_Least_eq (a b : T_api_Res) : res_Least a b = some (if (resOK a && resOK b) = true then rmin a b else r0) := by
  unfold res_Least res_each_res_Least_1
  simp only [res_Right_eq, Option.bind_some]
  cases ha : resOK a with
  | false => rfl
  | true =>
    cases hb : resOK b with
    | false => rfl
    | true =>
      obtain ⟨n, hn⟩ := fu6
      unfold res_row
      rw [hn]
      have e : res_each_res_Least_1.l1 ((⟨a.Cpu, a.Mem, a.Disk, a.Pods, a.Dev⟩ : Arr5_Int), (⟨b.Cpu, b.Mem, b.Disk, b.Pods, b.Dev⟩ : Arr5_Int)) (n + 6) (⟨a.Cpu, a.Mem, a.Disk, a.Pods, a.Dev⟩ : Arr5_Int) 0 =
        some (⟨min a.Cpu b.Cpu, min a.Mem b.Mem, min a.Disk b.Disk, min a.Pods b.Pods, min a.Dev b.Dev⟩ : Arr5_Int) := rfl
      simp only [Bool.not_true, Bool.false_eq_true, if_false, Option.bind_some, e, res_back, res_Right_eq, Bool.and_self, if_true]
      show (if resOK (rmin a b) = true then some (rmin a b, (0 : Int)) else some (r0, 10)).bind _ = _
      rw [resOK_min ha hb]; rfl

theorem resOK_sub {a b : T_api_Res} (ha : resOK a = true) (hb : resOK b = true) : resOK (rsub a b) = rle b a := by
  rw [Bool.eq_iff_iff, resOK_iff, rle_iff]
  rw [resOK_iff] at ha hb
  unfold rsub
  simp only
  omega

end Go.Proofs.YtmpkpnclmihdnaaGreat.M
