/- VMRepeats: what package vm computes. -/
import Derived.Test.YtaeadcgbahaofaaGreatDoorV8
section
open Go Go.Tw Go.Proofs
set_option maxRecDepth 100000
/-! VMRepeats: the handler's run, in plain -/
def I (n : Int) : D := .int .i64 n
def ins8 : List D := [(2, 0), (14, 7), (2, 0), (15, 0), (1, 0), (3, 0), (12, 1), (31, 0)].map fun (p : Int × Int) => .agg [I p.1, I p.2]
def stt (v pc : Int) (ns : Nat) (stk : List D) (ne : Nat) (eff : List D) (done : Bool := false) : Vm :=
  { instrs := ins8, strs := [], ents := [.agg [I 0, I 1, I 0, I 0]], prios := [I 1], cvars := [I 0], tims := 0, evs := 0, nv := 1, vars := [I v], left := [], clo := 0, act := 0, pl := 0, ba := 0, pc := pc, done := done, ns := ns, stk := stk, ne := ne, eff := eff }
section
variable {β : Type} {v : Int} {ns : Nat} {stk : List D} {ne : Nat} {eff : List D} {k : Vm → Option β}
theorem st0 : stepK (stt v 0 ns stk ne eff) k = (stt v 1 ns stk ne eff).putK v k := by kernel_rfl
theorem st1 : stepK (stt v 1 ns stk ne eff) k = (stt v 2 ns stk ne eff).takeK fun x m1 => bif decide (x ≤ 0) then k { m1 with pc := 7 } else m1.putK (w64 (x - 1)) k := by kernel_rfl
theorem st2 : stepK (stt v 2 ns stk ne eff) k = (stt v 3 ns stk ne eff).putK v k := by kernel_rfl
theorem st3 : stepK (stt v 3 ns stk ne eff) k = (stt v 4 ns stk ne eff).takeK fun x m1 => m1.effK 15 0 x 0 k := by kernel_rfl
theorem st4 : stepK (stt v 4 ns stk ne eff) k = (stt v 5 ns stk ne eff).putK 0 k := by kernel_rfl
theorem st5 : stepK (stt v 5 ns stk ne eff) k = (stt v 6 ns stk ne eff).takeK fun x m1 => k { m1 with vars := [I x] } := by kernel_rfl
theorem st6 : stepK (stt v 6 ns stk ne eff) k = k (stt v 1 ns stk ne eff) := by kernel_rfl
theorem st7 : stepK (stt v 7 ns stk ne eff) k = k (stt v 8 ns stk ne eff true) := by kernel_rfl
theorem put_0 {v pc x : Int} : (stt v pc 0 stk ne eff).putK x k = k (stt v pc 1 [I x] ne eff) := by
  unfold Vm.putK putM
  have h1 : Nat.ble 0 stk.length = true := by simp
  have h2 : Nat.ble 1 17592186044416 = true := by simp
  simp [stt, I, h1, h2]
theorem put_1 {v pc x : Int} {a : D} {r : List D} : (stt v pc 1 (a :: r) ne eff).putK x k = k (stt v pc 2 [a, I x] ne eff) := by
  unfold Vm.putK putM
  have h1 : Nat.ble 1 (r.length + 1) = true := by simp
  have h2 : Nat.ble 2 17592186044416 = true := by simp
  simp [stt, I, h1, h2]
theorem take_1 {v pc x : Int} {r : List D} {j : Int → Vm → Option β} : (stt v pc 1 (I x :: r) ne eff).takeK j = j x (stt v pc 0 (I x :: r) ne eff) := by
  unfold Vm.takeK takeM
  have h1 : Nat.ble 1 (r.length + 1) = true := by simp
  have h2 : Nat.ble 1 9223372036854775807 = true := by simp
  have h3 : Nat.blt 0 1 = true := by simp
  simp [stt, I, okK, D.intV, i64max, h1, h2, h3]
theorem take_2 {v pc x : Int} {a : D} {r : List D} {j : Int → Vm → Option β} : (stt v pc 2 (a :: I x :: r) ne eff).takeK j = j x (stt v pc 1 (a :: I x :: r) ne eff) := by
  unfold Vm.takeK takeM
  have h1 : Nat.ble 2 (r.length + 1 + 1) = true := by simp
  have h2 : Nat.ble 2 9223372036854775807 = true := by simp
  have h3 : Nat.blt 0 2 = true := by simp
  simp [stt, I, okK, D.intV, i64max, h1, h2, h3]
theorem eff_1 {v pc x : Int} {a : D} {r : List D} (h : eff.length = ne * 5) (hn : ne ≤ 1000) : (stt v pc 1 (a :: r) ne eff).effK 15 0 x 0 k = k (stt v pc 1 (a :: r) (ne + 1) (eff ++ [I 15, I 0, I x, I 0, .str []])) := by
  unfold Vm.effK effM
  have h1 : eff.take (ne * 5) = eff := by rw [← h]; simp
  have h2 : Nat.ble (ne * 5) eff.length = true := by rw [h]; simp
  have h3 : Nat.ble (ne + 1) 2932031007402 = true := by simp; omega
  simp [stt, I, h1, h2, h3]
end
theorem loop_step {f : Nat} {v pc : Int} {ns : Nat} {stk : List D} {ne : Nat} {eff : List D} {n : Int} (h1 : n < 1000) (h2 : ne ≤ 256) :
    loopE (f + 1) (stt v pc ns stk ne eff) 1000 n = stepK (stt v pc ns stk ne eff) fun m' => loopE f m' 1000 (w64 (n + 1)) := by
  have a1 : decide (n < 1000) = true := by simpa using h1
  have a2 : decide (((stt v pc ns stk ne eff).ne : Int) ≤ 256) = true := by
    show decide ((ne : Int) ≤ 256) = true
    exact decide_eq_true (by omega)
  have a3 : (!(stt v pc ns stk ne eff).done) = true := rfl
  simp only [loopE, a1, a2, a3, cond_true]
theorem w64_in {n : Int} (h : -9223372036854775808 ≤ n ∧ n ≤ 9223372036854775807) : w64 n = n := IntWalk.i64_in n h
/-- One round. -/
theorem round {f : Nat} {v x : Int} {r : List D} {ne : Nat} {eff : List D} {n : Int} (hx : 0 < x) (hx2 : x < 1000) (hn : 0 ≤ n ∧ n + 6 ≤ 1000) (he : eff.length = ne * 5) (hne : ne < 256) :
    loopE (f + 6) (stt v 1 1 (I x :: r) ne eff) 1000 n = loopE f (stt 0 1 1 [I (x - 1), I 0] (ne + 1) (eff ++ [I 15, I 0, I v, I 0, .str []])) 1000 (n + 6) := by
  have hw : ∀ i : Int, 0 ≤ i → i ≤ 6 → w64 (n + i) = n + i := fun i h1 h2 => w64_in (by omega)
  have hd : decide (x ≤ 0) = false := by simp; omega
  have hw1 : w64 (x - 1) = x - 1 := w64_in (by omega)
  rw [loop_step (by omega) (by omega), st1, take_1]
  simp only [hd, cond_false]
  rw [put_0, hw1, hw 1 (by omega) (by omega), loop_step (by omega) (by omega), st2, put_1]
  rw [show n + 1 + 1 = n + 2 by omega, hw 2 (by omega) (by omega), loop_step (by omega) (by omega), st3, take_2, eff_1 he (by omega)]
  rw [show n + 2 + 1 = n + 3 by omega, hw 3 (by omega) (by omega), loop_step (by omega) (by omega), st4, put_1]
  rw [show n + 3 + 1 = n + 4 by omega, hw 4 (by omega) (by omega), loop_step (by omega) (by omega), st5, take_2]
  rw [show n + 4 + 1 = n + 5 by omega, hw 5 (by omega) (by omega)]
  show loopE (f + 1) (stt 0 6 1 [I (x - 1), I 0] (ne + 1) (eff ++ [I 15, I 0, I v, I 0, .str []])) 1000 (n + 5) = _
  rw [loop_step (by omega) (by omega), st6, show n + 5 + 1 = n + 6 by omega, hw 6 (by omega) (by omega)]
def effZ : Nat → List D
  | 0 => []
  | n + 1 => [I 15, I 0, I 0, I 0, .str []] ++ effZ n
/-- The rounds with a count that is left. -/
theorem rounds : ∀ (x : Nat) {f : Nat} {r : List D} {ne : Nat} {eff : List D} {n : Int}, x < 200 → 0 ≤ n → n + 6 * x + 2 ≤ 1000 → eff.length = ne * 5 → ne + x ≤ 256 → 6 * x + 3 ≤ f →
    ∃ st' n', loopE f (stt 0 1 1 (I x :: r) ne eff) 1000 n = some (stt 0 8 0 st' (ne + x) (eff ++ effZ x) true, n')
  | 0, f, r, ne, eff, n, _, hn, hb, he, hne, hf => by
    obtain ⟨f, rfl⟩ : ∃ g, f = g + 3 := ⟨f - 3, by omega⟩
    rw [loop_step (by omega) (by omega), st1, take_1]
    simp only [Int.natCast_zero, Int.le_refl, decide_true, cond_true]
    show ∃ st' n', loopE (f + 2) (stt 0 7 0 (I 0 :: r) ne eff) 1000 (w64 (n + 1)) = _
    rw [w64_in (by omega), loop_step (by omega) (by omega), st7]
    refine ⟨I 0 :: r, w64 (n + 1 + 1), ?_⟩
    simp [loopE, stt, effZ]
  | x + 1, f, r, ne, eff, n, hx, hn, hb, he, hne, hf => by
    obtain ⟨f, rfl⟩ : ∃ g, f = g + 6 := ⟨f - 6, by omega⟩
    rw [round (by omega) (by omega) (by omega) he (by omega)]
    obtain ⟨st', n', h⟩ := rounds x (f := f) (r := [I 0]) (ne := ne + 1) (eff := eff ++ [I 15, I 0, I 0, I 0, .str []]) (n := n + 6) (by omega) (by omega) (by omega) (by simp [he]; omega) (by omega) (by omega)
    have hc : ((x + 1 : Nat) : Int) - 1 = (x : Int) := by omega
    rw [hc, h]
    exact ⟨st', n', by rw [show ne + 1 + x = ne + (x + 1) by omega]; simp [effZ]⟩
/-- What the effects are. -/
def effR (k : Int) : List D := bif decide (0 < k) then [I 15, I 0, I k, I 0, .str []] ++ effZ (k.toNat - 1) else []
def varR (k : Int) : Int := bif decide (0 < k) then 0 else k
theorem repeats {k : Int} (h1 : -100 < k) (h2 : k < 100) : ∃ st' n', loopE 2000 (stt k 0 0 [] 0 []) 1000 0 = some (stt (varR k) 8 0 st' k.toNat (effR k) true, n') := by
  rw [show (2000 : Nat) = 1999 + 1 by rfl, loop_step (by omega) (by omega), st0, put_0, w64_in (by omega)]
  by_cases hk : 0 < k
  · have hd : decide (0 < k) = true := by simpa using hk
    rw [show (1999 : Nat) = 1993 + 6 by rfl, round hk (by omega) (by omega) rfl (by omega)]
    obtain ⟨x, hx⟩ : ∃ x : Nat, k - 1 = (x : Int) := ⟨(k - 1).toNat, by omega⟩
    obtain ⟨st', n', h⟩ := rounds x (f := 1993) (r := [I 0]) (ne := 0 + 1) (eff := [] ++ [I 15, I 0, I k, I 0, .str []]) (n := 0 + 1 + 6) (by omega) (by omega) (by omega) (by simp) (by omega) (by omega)
    rw [hx, h]
    refine ⟨st', n', ?_⟩
    simp only [varR, effR, hd, cond_true]
    rw [show 0 + 1 + x = k.toNat by omega, show k.toNat - 1 = x by omega]
    rfl
  · have hd : decide (0 < k) = false := by simpa using hk
    have hd2 : decide (k ≤ 0) = true := by simp; omega
    rw [show (1999 : Nat) = 1997 + 1 + 1 by rfl, loop_step (by omega) (by omega), st1, take_1]
    simp only [hd2, cond_true]
    show ∃ st' n', loopE (1997 + 1) (stt k 7 0 [I k] 0 []) 1000 (w64 (0 + 1 + 1)) = _
    rw [w64_in (by omega), loop_step (by omega) (by omega), st7]
    refine ⟨[I k], w64 (0 + 1 + 1 + 1), ?_⟩
    have h0 : k.toNat = 0 := by omega
    simp only [effR, varR, hd, cond_false, h0]
    rfl
end
