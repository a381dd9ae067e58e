/- Contracts of functions that the law reaches: YtiadnhbclipmhaaGreatDoorTP5. Written for this claim. -/
import Derived.Test.YtiadnhbclipmhaaGreatDoorTPBase
import Derived.Test.YtiadnhbclipmhaaGreatDoorTP4
import Derived.Test.YtiadnhbclipmhaaGreatDoorTPGt
import Derived.Test.YtiadnhbclipmhaaGreatDoorSxTop
import Derived.Test.YtiadnhbclipmhaaGreatDoorSxPub2
namespace Go.Proofs.YtiadnhbclipmhaaGreatDoor
open Go Go.Sx Go.Shelf Go.RowKit Go.Lib Go.Sort Go.Proofs
set_option linter.unusedVariables false
set_option linter.unusedSimpArgs false
set_option maxRecDepth 100000
theorem sortLess : LessSpec Tryz.prog GG 63 := by
  intro xs i j hi hj hl
  refine spec_intro (E := EE) (fn := Tryz.f63) eok (by kernel_rfl) (by kernel_rfl) Tryz.call63 (by kernel_rfl) (by kernel_rfl) ?_
  conv => whnf
  repeat' first | ((first | refine Bt ?_ | refine Bf ?_ | refine Ni ?_ ?_ | refine Wq ?_ | refine Di ?_ | refine Oi ?_); conv => whnf) | (refine bc_intro (fun _ => ?_) (fun _ => ?_) <;> (conv => whnf))
  all_goals try simp only [Int.toNat_natCast] at *
  all_goals first | exact ⟨by omega, by omega⟩ | (refine ⟨LeS.of_eq ?_, trivial⟩; simp_all [ltN])
noncomputable def nwE : TypeInfo := (Tryz.prog.info? 31).get (by kernel_rfl)
theorem nwK (n : Nat) (h2 : 2 ≤ n) : Lib.swapperK n nwE 25 = 9 := by
  have a : nwE.hasPointers = true := by kernel_rfl
  have b : nwE.bytes = 32 := by kernel_rfl
  have c : (n == 0) = false := by simp; omega
  have d : (n == 1) = false := by simp; omega
  simp [Lib.swapperK, a, b, c, d]
theorem nwK0 : Lib.swapperK 0 nwE 25 = 1 := rfl
theorem nwK1 : Lib.swapperK 1 nwE 25 = 2 := rfl
theorem sortedAt : SorterAt Tryz.prog GG 64 25 63 (fun l => .d (.bool (isSortedF l))) (fun l => .bool (isSortedF l)) (fun l => l) where
  enter := enters_of Tryz.func64 (by kernel_rfl) rfl
  rep := fun l I ρ w => by simp only [RepS, RepD]
  names := fun l n h => by simp [inS] at h
  outTiny := fun _ _ => rfl
  outLen := fun _ => rfl
  less := sortLess
  tiny := fun l h p c la lb w => by
    have e : isSortedF l = true := by unfold isSortedF; rw [show l.length - 1 = 0 by omega]; rfl
    rw [e]
    exact isSorted_tiny 63 la lb p l.length c w h
  whole := fun lb blk off c l h2 hsz w hless hH hblk => by
    have := isSorted_walk enc3 3 ltN 63 lb blk off c l.toArray w (enters_of Tryz.func63 (by kernel_rfl) rfl) (by simpa using hless) hH hblk (by simp; omega) (by simp; omega)
    simpa [isSortedF] using this
theorem stableAt : SorterAt Tryz.prog GG 65 25 63 (fun _ => .tup []) (fun _ => .tuple #[]) stabF where
  enter := enters_of Tryz.func65 (by kernel_rfl) rfl
  rep := fun l I ρ w => by simp only [RepS]; exact ⟨[], rfl, by simp [RepL]⟩
  names := fun l n h => by simp [inS, inL] at h
  outTiny := fun l h => by simp [stabF, show l.length < 2 by omega]
  outLen := stabF_len
  less := sortLess
  tiny := fun l h p c la lb w => by
    generalize l.length = n at *
    rcases (show n = 0 ∨ n = 1 by omega) with rfl | rfl
    · exact Any.sort_SliceStable_tiny Tryz.gt8 25 31 nvT nwE (by kernel_rfl) (by kernel_rfl) (by kernel_rfl) (by kernel_rfl) 25 (fun _ => by kernel_rfl) p 0 c (by omega) 98 (by rw [nwK0]; kernel_rfl) _ la lb w
    · exact Any.sort_SliceStable_tiny Tryz.gt8 25 31 nvT nwE (by kernel_rfl) (by kernel_rfl) (by kernel_rfl) (by kernel_rfl) 25 (fun _ => by kernel_rfl) p 1 c (by omega) 99 (by rw [nwK1]; kernel_rfl) _ la lb w
  whole := fun lb blk off c l h2 hsz w hless hH hblk => by
    have e : stabF l = (Sort.insertionSort ltN l.toArray 0 l.toArray.size).toList := by simp [stabF, show ¬ l.length < 2 by omega]
    have := Any.sort_SliceStable_smallK Tryz.gt8 25 31 nvT nwE (by kernel_rfl) (by kernel_rfl) (by kernel_rfl) (by kernel_rfl) 25 (fun _ => by kernel_rfl) enc3 3 enc3_len (by kernel_rfl) (fun _ => by kernel_rfl)
      enc3_one ltN 63 lb (enters_of Tryz.func63 (by kernel_rfl) rfl) blk off c l.toArray (by simpa using h2) (by simpa using hsz) 106 (by rw [nwK _ (by simpa using h2)]; kernel_rfl) false
      (fun args W => run_callFunc_extern Tryz.func106 (by kernel_rfl) (by kernel_rfl) (by kernel_rfl) (e := Extern.ReflectliteSwapper.swap false) (by kernel_rfl) args W) w (by simpa using hless) hH hblk
    rw [e]
    exact this
theorem sort_spec {xs : List NodeT} (hr : Rst xs) (h20 : xs.length < 20) : Sx.Spec Tryz.prog GG 31 [.d (encL encN 3 xs)] [] (.osl 2000 3 0 xs.length) [(2000, .row 31 3 xs.length (cellOf encN (sortN xs)))] := by
  refine spec_intro (E := EE) (fn := Tryz.f31) eok (by kernel_rfl) (by kernel_rfl) Tryz.call31 (by kernel_rfl) (by kernel_rfl) ?_
  conv => whnf
  repeat' first | ((first | refine Cf (cloneN_at 2000) ?_ ?_ | refine call_if (sorter_at sortedAt xs _ _ _ (by decide)) Fl (Ni ?_ ?_) | refine call_if (sorter_at stableAt xs _ _ _ (by decide)) Fl (Ni ?_ ?_) | refine Bt ?_ | refine Bf ?_ | refine Ni ?_ ?_ | refine Wq ?_ | refine Di ?_ | refine Oi ?_); conv => whnf) | (refine bc_intro (fun _ => ?_) (fun _ => ?_) <;> (conv => whnf))
  all_goals first
    | exact trivial | exact ⟨rfl, rfl, rfl⟩ | exact ⟨rfl, RowLe.refl _ _ _, h20⟩ | omega | exact RowLe.refl _ _ _
    | (rw [stabF_eq hr]; exact RowLe.refl _ _ _)
    | (rw [isSorted_eq hr (by simp_all)]; exact RowLe.refl _ _ _)
theorem sort_at (m : Nat) {xs : List NodeT} : (Rst xs ∧ xs.length < 20) → Sx.Spec Tryz.prog GG 31 [.d (encL encN 3 xs)] [] (.osl m 3 0 xs.length) [(m, .row 31 3 xs.length (cellOf encN (sortN xs)))] := fun h => (sort_spec h.1 h.2).new1 m
theorem sort_d {xs : List NodeT} : (Rst xs ∧ xs.length < 20) → Sx.Spec Tryz.prog GG 31 [.d (encL encN 3 xs)] [] (.d (encL encN 3 (sortN xs))) [] := fun h => by
  have := (sort_spec h.1 h.2).pub1
  show Sx.Spec Tryz.prog GG _ _ _ (SV.d (.list (sortN xs).length 3 (cellOf encN (sortN xs)))) _
  rw [sortN_len xs]
  exact this
end Go.Proofs.YtiadnhbclipmhaaGreatDoor

namespace Go.Proofs.YtiadnhbclipmhaaGreatDoor
open Go Go.Sx Go.ChangeShapes Go.WideShapes Go.ChangeAt Go.RowKit
set_option linter.unusedVariables false
set_option linter.unusedSimpArgs false
set_option maxRecDepth 100000
theorem tz_spec (x : Nat) {n : Int} : (n = x ∧ x ≤ 65535) → Sx.Spec Tryz.prog GG 123 [.d (.int .u32 n)] [] (.d (.int .i64 (tzF x))) [] := by
  rintro ⟨rfl, hx⟩
  refine spec_intro (E := EE) (fn := Tryz.f123) eok (by kernel_rfl) (by kernel_rfl) Tryz.call123 (by kernel_rfl) (by kernel_rfl) ?_
  conv => whnf
  repeat' first | ((first | refine Bt ?_ | refine Bf ?_ | refine Ni ?_ ?_ | refine Wq ?_ | refine Di ?_ | refine Oi ?_); conv => whnf) | (refine bc_intro (fun _ => ?_) (fun _ => ?_) <;> (conv => whnf))
  all_goals try simp only [beq_iff_eq, beq_eq_false_iff_ne] at *
  all_goals try rw [deb (by omega) hx]
  all_goals first
    | omega | exact ⟨by omega, by have := deb_tz (x := x) (by omega) hx; omega⟩ | (refine ⟨LeS.of_eq ?_, trivial⟩; rw [show tzF x = 32 by unfold tzF; rw [if_pos (by omega)]])
    | (refine ⟨LeS.of_eq ?_, trivial⟩
       have e : tzF x = tz32N (((x &&& (2 ^ 32 - x)) * 125613361) % 2 ^ 32 / 2 ^ 27) := by unfold tzF; rw [if_neg (by omega)]
       have hr := tzF_range (x := x)
       have e5 : Tryz.prog.cellsOf 5 = 1 := by kernel_rfl
       rw [e5, Int.toNat_natCast, Nat.mul_one, Nat.add_zero]
       show SV.d (D.int IntKind.i64 (IntKind.i64.wrap (tz32N _))) = _
       rw [← e, wrap_of (by omega) (by omega)])
theorem bit_spec (w : Nat) (i : Int) : w ≤ 65535 → Sx.Spec Tryz.prog GG 48 [.d (.int .u32 (w : Int)), .d (.int .i64 i)] [] (.d (.int .i64 (if 0 ≤ i ∧ i < 16 then (bitW w i.toNat : Int) else 0))) [] := by
  intro hx
  refine spec_intro (E := EE) (fn := Tryz.f48) eok (by kernel_rfl) (by kernel_rfl) Tryz.call48 (by kernel_rfl) (by kernel_rfl) ?_
  conv => whnf
  repeat' first | ((first | refine Bt ?_ | refine Bf ?_ | refine Ni ?_ ?_ | refine Wq ?_ | refine Di ?_ | refine Oi ?_); conv => whnf) | (refine bc_intro (fun _ => ?_) (fun _ => ?_) <;> (conv => whnf))
  all_goals try simp only [decide_eq_true_eq, decide_eq_false_iff_not] at *
  all_goals first | omega | (refine ⟨LeS.of_eq ?_, trivial⟩; rw [if_neg (by omega)]) | (refine ⟨LeS.of_eq ?_, trivial⟩; rw [if_pos (by omega), bit_val hx (by omega) (by omega)])
theorem common_spec (a b : Nat) : a ≤ 65535 ∧ b ≤ 65535 → Sx.Spec Tryz.prog GG 118 [.d (.int .u32 (a : Int)), .d (.int .u32 (b : Int))] [] (.d (.int .i64 (min (tzF (a ^^^ b)) 16))) [] := by
  rintro ⟨ha, hb⟩
  refine spec_intro (E := EE) (fn := Tryz.f118) eok (by kernel_rfl) (by kernel_rfl) Tryz.call118 (by kernel_rfl) (by kernel_rfl) ?_
  conv => whnf
  repeat' first | ((first | refine call_if (tz_spec (a ^^^ b)) Fl (Ni ?_ ?_) | refine Bt ?_ | refine Bf ?_ | refine Ni ?_ ?_ | refine Wq ?_ | refine Di ?_ | refine Oi ?_); conv => whnf) | (refine bc_intro (fun _ => ?_) (fun _ => ?_) <;> (conv => whnf))
  all_goals first
    | (refine ⟨LeS.of_eq ?_, trivial⟩
       congr 2
       have := tzF_range (x := a ^^^ b)
       split <;> omega)
    | exact ⟨xor_val ha hb, by have := Nat.xor_lt_two_pow (n := 16) (x := a) (y := b) (by omega) (by omega); omega⟩
theorem same_spec (a b l : Nat) : (a ≤ 65535 ∧ b ≤ 65535 ∧ l ≤ 16) → Sx.Spec Tryz.prog GG 97 [.d (.int .u32 (a : Int)), .d (.int .u32 (b : Int)), .d (.int .i64 l)] [] (.d (.bool (sameW a b l))) [] := by
  rintro ⟨ha, hb, hl⟩
  refine spec_intro (E := EE) (fn := Tryz.f97) eok (by kernel_rfl) (by kernel_rfl) Tryz.call97 (by kernel_rfl) (by kernel_rfl) ?_
  conv => whnf
  repeat' first | ((first | refine Cf (common_spec _ _) ?_ ?_ | refine Bt ?_ | refine Bf ?_ | refine Ni ?_ ?_ | refine Wq ?_ | refine Di ?_ | refine Oi ?_); conv => whnf) | (refine bc_intro (fun _ => ?_) (fun _ => ?_) <;> (conv => whnf))
  all_goals first | exact ⟨ha, hb⟩ | exact ⟨LeS.of_eq (by rw [same_common ha hb hl]), trivial⟩
end Go.Proofs.YtiadnhbclipmhaaGreatDoor

namespace Go.Proofs.YtiadnhbclipmhaaGreatDoor
open Go Go.Sx Go.ChangeShapes Go.WideShapes Go.ChangeAt Go.RowKit
set_option linter.unusedVariables false
set_option linter.unusedSimpArgs false
set_option maxRecDepth 100000
theorem class1_spec (c : List NodeT) (x : NodeT) (lv : Nat) : (c ≠ [] ∧ (c.getD 0 default).word ≤ 65535 ∧ x.word ≤ 65535 ∧ lv ≤ 16) → Sx.Spec Tryz.prog GG 96 [.d (encL encN 3 c), .ptr 1000 0, .ptr 1001 0] [(1000, boxN x), (1001, .box [.d (.int .i64 lv)])] (.d (.bool (inC lv x c))) [(1000, boxN x), (1001, .box [.d (.int .i64 lv)])] := by
  rintro ⟨h0, h1, h2, h3⟩
  have hc := lpos h0
  refine spec_intro (E := EE) (fn := Tryz.f96) eok (by kernel_rfl) (by kernel_rfl) Tryz.call96 (by kernel_rfl) (by kernel_rfl) ?_
  conv => whnf
  repeat' first | ((first | refine Cf (same_spec _ _ _) ?_ ?_ | refine Bt ?_ | refine Bf ?_ | refine Ni ?_ ?_ | refine Wq ?_ | refine Di ?_ | refine Oi ?_); conv => whnf) | (refine bc_intro (fun _ => ?_) (fun _ => ?_) <;> (conv => whnf))
  all_goals first | exact ⟨h1, h2, h3⟩ | exact ⟨by omega, by omega⟩ | exact ⟨LeS.refl _, LeL.refl _, LeL.refl _, trivial⟩
structure ClsB (cs : List (List NodeT)) : Prop where
  len : cs.length ≤ 1000
  ne : ∀ c ∈ cs, c ≠ []
  wd : ∀ c ∈ cs, ∀ x ∈ c, x.word ≤ 65535
theorem ClsB.add {cs : List (List NodeT)} (h : ClsB cs) {lv : Nat} {x : NodeT} (hx : x.word ≤ 65535) (hl : cs.length ≤ 999) : ClsB (addC lv cs x) := by
  refine ⟨by have := addC_len (lv := lv) (x := x) (cs := cs); omega, addC_ne h.ne, fun c hc y hy => ?_⟩
  rcases addC_mem.1 ⟨c, hc, hy⟩ with ⟨d, hd, hy⟩ | rfl
  · exact h.wd d hd y hy
  · exact hx
theorem ClsB.at {cs : List (List NodeT)} (h : ClsB cs) {i : Nat} (hi : i < cs.length) : cs.getD i default ≠ [] ∧ ((cs.getD i default).getD 0 default).word ≤ 65535 := by
  have hm := getD_mem' hi
  have h1 := h.ne _ hm
  exact ⟨h1, h.wd _ hm _ (getD_mem' (lpos h1))⟩
theorem idxC_spec (cs : List (List NodeT)) (x : NodeT) (lv : Nat) : (ClsB cs ∧ x.word ≤ 65535 ∧ lv ≤ 16) → Sx.Spec Tryz.prog GG 95 [.d (encL encC 1 cs), .clo 96 [.ptr 1000 0, .ptr 1001 0]] [(1000, boxN x), (1001, .box [.d (.int .i64 lv)])] (.d (.int .i64 (idxP (inC lv x) cs 0))) [(1000, boxN x), (1001, .box [.d (.int .i64 lv)])] := by
  rintro ⟨hB, hx, hlv⟩
  have hl := hB.len
  refine spec_intro (E := EE) (fn := Tryz.f95) eok (by kernel_rfl) (by kernel_rfl) Tryz.call95 (by kernel_rfl) (by kernel_rfl) ?_
  conv => whnf
  repeat' first | ((first | refine Bt ?_ | refine Bf ?_ | refine Ni ?_ ?_ | refine Wq ?_ | refine Di ?_ | refine Oi ?_); conv => whnf) | (refine bc_intro (fun _ => ?_) (fun _ => ?_) <;> (conv => whnf))
  refine loop_auto [0, 0 + 1, 6, 7] [1000, 1001] (fun i : Nat => [(8, .d (.int .i64 i))]) (fun _ => []) (fun i => i ≤ cs.length ∧ idxP (inC lv x) cs 0 = idxP (inC lv x) (cs.drop i) i) (fun i => cs.length - i) 0 ?_ (fun i hi => ?_) ⟨Nat.zero_le _, by simp⟩
  · conv => whnf
    repeat' first | ((first | refine Bt ?_ | refine Bf ?_ | refine Ni ?_ ?_ | refine Wq ?_ | refine Di ?_ | refine Oi ?_); conv => whnf) | (refine bc_intro (fun _ => ?_) (fun _ => ?_) <;> (conv => whnf))
    all_goals try first | exact Lq
  · obtain ⟨h1, h2⟩ := hi
    have e1 : i < cs.length → IntKind.i64.wrap ((i : Int) + 1) = ((i + 1 : Nat) : Int) := fun h => wrap_succ (n := 1000) (by omega) (by omega)
    conv => whnf
    repeat' first | ((first | refine Cf (class1_spec _ _ _) ?_ ?_ | refine NextVC.mk (i + 1) ?_ ?_ ?_ | refine Bt ?_ | refine Bf ?_ | refine Ni ?_ ?_ | refine Wq ?_ | refine Di ?_ | refine Oi ?_); conv => whnf) | (refine bc_intro (fun _ => ?_) (fun _ => ?_) <;> (conv => whnf))
    all_goals try simp only [decide_eq_true_eq, decide_eq_false_iff_not, Int.toNat_natCast] at *
    all_goals first | exact trivial | exact DLe.refl _ | omega | exact DLe.of_eq (by rw [e1 (by omega)]) | exact ⟨(hB.at (by omega)).1, (hB.at (by omega)).2, hx, hlv⟩ | (refine ⟨LeS.of_eq ?_, LeL.refl _, LeL.refl _, trivial⟩; rw [h2, idxP_end (by omega)]) | (refine ⟨LeS.of_eq ?_, LeL.refl _, LeL.refl _, trivial⟩; rw [h2, idxP_step (by omega)]; simp_all) | (refine ⟨by omega, ?_⟩; rw [h2, idxP_step (by omega)]; simp_all)
theorem idxC_at (m k : Nat) (hmk : m ≠ k) (cs : List (List NodeT)) {x : NodeT} {lv n : Nat} {g : Nat → Nat → D} : ((n = cs.length ∧ RowLe n 1 g (cellOf encC cs)) ∧ ClsB cs ∧ x.word ≤ 65535 ∧ lv ≤ 16) → Sx.Spec Tryz.prog GG 95 [.d (.list n 1 g), .clo 96 [.ptr m 0, .ptr k 0]] [(m, boxN x), (k, .box [.d (.int .i64 lv)])] (.d (.int .i64 (idxP (inC lv x) cs 0))) [(m, boxN x), (k, .box [.d (.int .i64 lv)])] := by
  rintro ⟨⟨rfl, hg⟩, h⟩
  have h1 := (idxC_spec cs x lv h).at2 m k (by decide) hmk
  simp only [renL, renS, renB, if_true, show ¬ (1001 : Nat) = 1000 by decide, if_false] at h1
  exact h1.arg (LeL.cons (LeS.d (DLe.rows rfl hg)) (LeL.refl _))
end Go.Proofs.YtiadnhbclipmhaaGreatDoor

namespace Go.Proofs.YtiadnhbclipmhaaGreatDoor
open Go Go.Sx Go.ChangeShapes Go.WideShapes Go.ChangeAt Go.RowKit
set_option linter.unusedVariables false
set_option linter.unusedSimpArgs false
set_option maxRecDepth 100000
abbrev NestC (rows : Nat → Option FRow) (nk : Nat) (get : Nat → Nat → FC) (cs : List (List NodeT)) : Prop :=
  NestAt rows nk 31 3 cs.length (fun i => get i 0) (fun i => (cs.getD i default).length) (fun i => cellOf encN (cs.getD i default))
theorem classes0 (l : List NodeT) (lv : Nat) : (l.length ≤ 64 ∧ (∀ x ∈ l, x.word ≤ 65535) ∧ lv ≤ 16) → ∃ x : Nat × (Nat → Option FRow) × (Nat → Nat → FC), NestC x.2.1 x.1 x.2.2 (classesF lv l) ∧
    Sx.Spec Tryz.prog GG 80 [.d (encL encN 3 l), .d (.int .i64 lv)] [] (.osl 2000 1 0 (classesF lv l).length) [(2000, .frow 900000 25 1 (classesF lv l).length x.2.2), (900000, .fam x.1 x.2.1)] := by
  rintro ⟨hl, hw, hlv⟩
  have hlv' : decide ((lv : Int) > 16) = false := by rw [decide_eq_false_iff_not]; omega
  have cB : Tryz.prog.cellsOf 25 = 1 := by kernel_rfl
  have bB : Tryz.prog.bytesOf 25 = 24 := by kernel_rfl
  have cN : Tryz.prog.cellsOf 31 = 3 := by kernel_rfl
  have bN : Tryz.prog.bytesOf 31 = 32 := by kernel_rfl
  refine spec_someF (E := EE) (fn := Tryz.f80) _ _ _ true eok (by kernel_rfl) (by kernel_rfl) Tryz.call80 (by kernel_rfl) (fun _ => by kernel_rfl) (fun _ => by kernel_rfl) (by kernel_rfl) ?_
  conv => whnf
  repeat' first | ((first | refine Bt ?_ | refine Bf ?_ | refine Ni ?_ ?_ | refine Wq ?_ | refine Di ?_ | refine Oi ?_); conv => whnf)
  refine loop_auto [3, 11, 12] [3] (fun x : (Nat × List (List NodeT)) × Nat × (Nat → Option FRow) × (Nat → Nat → FC) => [(13, .d (.int .i64 x.1.1)), (5, .osl 2000 1 0 x.1.2.length)]) (fun x => [(2000, .frow 900000 25 1 x.1.2.length x.2.2.2), (900000, .fam x.2.1 x.2.2.1)])
    (fun x => ((x.1.1 ≤ l.length ∧ x.1.2.length ≤ x.1.1) ∧ (ClsB x.1.2 ∧ ∀ c ∈ x.1.2, c.length ≤ x.1.1) ∧ (l.drop x.1.1).foldl (addC lv) x.1.2 = classesF lv l) ∧ NestC x.2.2.1 x.2.1 x.2.2.2 x.1.2) (fun x => l.length - x.1.1) ((0, []), 0, fun _ => none, fun _ _ => default) ?_ (fun x hx => ?_) ⟨⟨⟨Nat.zero_le _, Nat.le_refl _⟩, ⟨⟨by simp, by simp, by simp⟩, by simp⟩, rfl⟩, NestAt.nil⟩
  · conv => whnf
    repeat' first | ((first | refine Bt ?_ | refine Bf ?_ | refine Ni ?_ ?_ | refine Wq ?_ | refine Di ?_ | refine Oi ?_); conv => whnf) | (refine bc_intro (fun _ => ?_) (fun _ => ?_) <;> (conv => whnf))
    all_goals try first | exact Lq
  · obtain ⟨⟨i, cs⟩, nk, rows, get⟩ := x
    obtain ⟨⟨⟨hi, hci⟩, ⟨hB, hsz⟩, hf⟩, hN⟩ := hx
    simp only at hi hci hB hsz hf hN
    have hs : i < l.length → IntKind.i64.wrap ((i : Int) + 1) = ((i + 1 : Nat) : Int) := fun h => wrap_succ (n := 1000) (by omega) (by omega)
    conv => whnf
    refine bc_intro (fun hlt => ?_) (fun hlt => ?_)
    · have hlt : i < l.length := by simpa using hlt
      have hxw := hw _ (getD_mem' hlt)
      have hsi := hs hlt
      have hstep : ∀ cs', cs' = addC lv cs (l.getD i default) → (l.drop (i + 1)).foldl (addC lv) cs' = classesF lv l := by
        rintro _ rfl
        rw [← hf, List.drop_eq_getElem_cons hlt, List.foldl_cons]
        simp [List.getD, hlt]
      have hadd := addC_len (lv := lv) (x := l.getD i default) (cs := cs)
      have hB' := hB.add (lv := lv) hxw (by omega)
      have hsz' := addC_sz (lv := lv) (x := l.getD i default) hsz
      conv => whnf
      repeat' first | ((first | refine call_if (idxC_at _ _ (by decide) cs) Fl (Ni ?_ ?_) | refine Bt ?_ | refine Bf ?_ | refine Ni ?_ ?_ | refine Wq ?_ | refine Di ?_ | refine Oi ?_); conv => whnf)
      refine join_auto [3, 7, 11, 12, 13] [3, 7, 900000] (fun z : Nat × Nat × (Nat → Nat → FC) => [(8, .d (.int .i64 z.1)), (5, .osl 2000 1 0 z.2.1)]) (fun z => [(2000, .frow 900000 25 1 z.2.1 z.2.2)])
        (fun z => z.1 < z.2.1 ∧ ((z.2.1 = cs.length ∧ z.2.2 = get ∧ idxP (inC lv (l.getD i default)) cs 0 = z.1) ∨ (z.2.1 = cs.length + 1 ∧ z.1 = cs.length ∧ idxP (inC lv (l.getD i default)) cs 0 = -1 ∧ z.2.2 z.1 0 = .d (.val (.slice none 0 0)) ∧ ∀ a, a < cs.length → z.2.2 a 0 = get a 0))) (fun h1 => ?_) (fun h1 => ?_) ?_
      · conv => whnf
        repeat' first | ((first | refine JoinVC.mk (cs.length, cs.length + 1, fun a b => if a < cs.length then get a b else .d (.val (.slice none 0 0))) ?_ ?_ | refine Bt ?_ | refine Bf ?_ | refine Ni ?_ ?_ | refine Wq ?_ | refine Di ?_ | refine Oi ?_); conv => whnf)
        all_goals try simp only [cB, bB]
        all_goals first
          | exact Lf | exact ⟨trivial, trivial, trivial⟩ | exact ⟨trivial, by omega, by omega⟩
          | (refine FRowLe.of_eq fun a j ha hj => ?_
             have hj : j = 0 := by omega
             subst hj
             by_cases ha' : a < cs.length
             · simp only [if_pos ha']
             · simp only [if_neg ha', show a - cs.length = 0 by omega]; rfl)
          | (refine ⟨by omega, .inr ⟨trivial, trivial, ?_, by simp only [Nat.lt_irrefl, if_false], fun a ha => by simp only [if_pos ha]⟩⟩
             rcases idxP_range (p := inC lv (l.getD i default)) (xs := cs) (f := 0) with ⟨q1, q2⟩ | ⟨q, q1, _⟩
             · exact q1
             · simp only [decide_eq_true_eq, Int.toNat_natCast] at h1; omega)
          | skip
      · conv => whnf
        repeat' first | ((first | refine JoinVC.mk ((idxP (inC lv (l.getD i default)) cs 0).toNat, cs.length, get) ?_ ?_ | refine Bt ?_ | refine Bf ?_ | refine Ni ?_ ?_ | refine Wq ?_ | refine Di ?_ | refine Oi ?_); conv => whnf)
        all_goals simp only [decide_eq_false_iff_not, Int.toNat_natCast] at h1
        all_goals rcases idxP_range (p := inC lv (l.getD i default)) (xs := cs) (f := 0) with ⟨q1, q2⟩ | ⟨q, q1, q2, q3, q4⟩
        all_goals first
          | exact Lf
          | (exfalso; omega)
          | (refine DLe.of_eq ?_; simp only [Int.toNat_natCast]; congr 1; omega) | exact ⟨by simp only; omega, .inl ⟨rfl, rfl, by simp only; omega⟩⟩
          | skip
      · rintro ⟨k, len, get'⟩ ⟨hk, hz⟩
        simp only at hk hz
        conv => whnf
        repeat' first | ((first | refine Bt ?_ | refine Bf ?_ | refine Ni ?_ ?_ | refine Wq ?_ | refine Di ?_ | refine Oi ?_); conv => whnf)
        · rcases hz with ⟨rfl, rfl, hix⟩ | ⟨rfl, rfl, hix, hnil, hold⟩
          · obtain ⟨kk, g, e1, e2, e3, e4⟩ := hN.cell k hk
            have eg := e1
            have hck := hsz _ (getD_mem' hk)
            have ea : addC lv cs (l.getD i default) = cs.set k (cs.getD k default ++ [l.getD i default]) := by
              rcases idxP_range (p := inC lv (l.getD i default)) (xs := cs) (f := 0) with ⟨q1, q2⟩ | ⟨q, q1, q2, q3, q4⟩
              · omega
              · have : q = k := by omega
                subst this
                exact addC_at hk q3 q4
            have e1 : get' (0 + (k : Int).toNat) 0 = .fs kk 3 (cs.getD k default).length := by rw [Nat.zero_add, Int.toNat_natCast]; exact e1
            dsimp only
            rw [e1]
            conv => whnf
            repeat' first | ((first | refine NextVC.mk ((i + 1, addC lv cs (l.getD i default)), nk + 1, putR (putR rows kk none) nk (some ⟨31, 3, (cs.getD k default).length + 1, cellOf encN (cs.getD k default ++ [l.getD i default])⟩), fun a b => if a = k then .fs nk 3 ((cs.getD k default).length + 1) else get' a b) ?_ ?_ ?_ | refine Bt ?_ | refine Bf ?_ | refine Ni ?_ ?_ | refine Wq ?_ | refine Di ?_ | refine Oi ?_); conv => whnf)
            all_goals try simp only [cN, bN, Int.toNat_natCast, Nat.zero_add]
            all_goals try simp only [ea, List.length_set]
            all_goals first
              | exact Lf | exact ⟨trivial, trivial, trivial⟩ | exact DLe.of_eq (by rw [hsi])
              | exact FamLe.put (FamLe.refl _) (row_snoc rfl ⟨fun a j ha hj => by simp only [rowGet, e3]; exact e4.le a j ha hj⟩ (jlt3 (DLe.of_eq rfl) (DLe.of_eq rfl) (DLe.of_eq rfl)))
              | (refine FRowLe.of_eq fun a j ha hj => ?_
                 have hj : j = 0 := by omega
                 subst hj
                 by_cases ha' : a = k
                 · simp only [if_pos ha']; rfl
                 · simp only [if_neg ha'])
              | (refine ⟨⟨_, e3, rfl, rfl, rfl⟩, ?_, ?_⟩ <;> omega)
              | (refine ⟨⟨⟨by omega, by omega⟩, ⟨by rw [← ea]; exact hB', by rw [← ea]; exact hsz'⟩, hstep _ ea.symm⟩, ?_⟩
                 have hn := NestAt.swap (sl' := fun a => if a = k then .fs nk 3 ((cs.getD k default).length + 1) else get' a 0) (ln' := fun a => ((cs.set k (cs.getD k default ++ [l.getD i default])).getD a default).length)
                   (cn' := fun a => cellOf encN ((cs.set k (cs.getD k default ++ [l.getD i default])).getD a default)) (g := cellOf encN (cs.getD k default ++ [l.getD i default])) hN hk eg (fun a ha hne => by simp only [set_get hk, if_neg hne]; exact ⟨trivial, trivial, trivial⟩)
                   (by simp only [set_get hk, if_true, List.length_append, List.length_singleton]) (by simp only [set_get hk, if_true]; exact RowLe.refl _ _ _)
                 simp only [set_get hk, if_true, List.length_append, List.length_singleton] at hn
                 show NestAt _ _ _ _ _ _ _ _
                 simp only [List.length_set, set_get hk]
                 exact hn)
          · have ea : addC lv cs (l.getD i default) = cs ++ [[l.getD i default]] := by
              rcases idxP_range (p := inC lv (l.getD i default)) (xs := cs) (f := 0) with ⟨q1, q2⟩ | ⟨q, q1, q2, q3, q4⟩
              · exact addC_none q2
              · omega
            have e1 : get' (0 + (cs.length : Int).toNat) 0 = .d (.val (.slice none 0 0)) := by rw [Nat.zero_add, Int.toNat_natCast]; exact hnil
            dsimp only
            rw [e1]
            conv => whnf
            repeat' first | ((first | refine NextVC.mk ((i + 1, addC lv cs (l.getD i default)), nk + 1, putR rows nk (some ⟨31, 3, 1, cellOf encN [l.getD i default]⟩), fun a b => if a = cs.length then .fs nk 3 1 else get' a b) ?_ ?_ ?_ | refine Bt ?_ | refine Bf ?_ | refine Ni ?_ ?_ | refine Wq ?_ | refine Di ?_ | refine Oi ?_); conv => whnf)
            all_goals try simp only [cN, bN, Int.toNat_natCast, Nat.zero_add]
            all_goals try simp only [ea, List.length_append, List.length_singleton]
            all_goals first
              | exact Lf | exact ⟨trivial, trivial, trivial⟩ | exact DLe.of_eq (by rw [hsi]) | exact FamLe.put (FamLe.refl _) (row_one (jlt3 (DLe.of_eq rfl) (DLe.of_eq rfl) (DLe.of_eq rfl)))
              | (refine FRowLe.of_eq fun a j ha hj => ?_
                 have hj : j = 0 := by omega
                 subst hj
                 by_cases ha' : a = cs.length
                 · simp only [if_pos ha']; rfl
                 · simp only [if_neg ha'])
              | (refine ⟨⟨⟨by omega, by omega⟩, ⟨by rw [← ea]; exact hB', by rw [← ea]; exact hsz'⟩, hstep _ ea.symm⟩, ?_⟩
                 have hn := NestAt.push (sl' := fun a => if a = cs.length then .fs nk 3 1 else get' a 0) (ln' := fun a => ((cs ++ [[l.getD i default]]).getD a default).length)
                   (cn' := fun a => cellOf encN ((cs ++ [[l.getD i default]]).getD a default)) (g := cellOf encN [l.getD i default]) hN (fun a ha => by
                     have hne : a ≠ cs.length := by omega
                     simp only [snoc_get, if_neg hne]; exact ⟨hold a ha, trivial, trivial⟩)
                   (by simp only [snoc_get, if_true, List.length_singleton]) (by simp only [snoc_get, if_true]; exact RowLe.refl _ _ _)
                 simp only [snoc_get, if_true, List.length_singleton] at hn
                 show NestAt _ _ _ _ _ _ _ _
                 simp only [List.length_append, List.length_singleton, snoc_get]
                 exact hn)
        all_goals simp only [Int.toNat_natCast]
        all_goals first | omega | exact ⟨by omega, by omega⟩
      · simp only [Int.toNat_natCast, Nat.zero_add]
        refine ⟨⟨trivial, ⟨fun a b ha hb => ?_⟩⟩, hB, hw _ (getD_mem' hlt), hlv⟩
        have hb : b = 0 := by omega
        subst hb
        exact (hN.cell a ha).le
      · intro a b ha hb
        have hb : b = 0 := by omega
        subst hb
        simp only [Nat.zero_add]
        exact (hN.cell a ha).ok
      · exact ⟨by simp only; omega, by simp only; omega⟩
    · have hlt : l.length ≤ i := by simpa using hlt
      have e : cs = classesF lv l := by rw [← hf, List.drop_eq_nil_of_le hlt]; rfl
      subst e
      conv => whnf
      repeat' first | ((first | refine Bt ?_ | refine Bf ?_ | refine Ni ?_ ?_ | refine Wq ?_ | refine Di ?_ | refine Oi ?_); conv => whnf)
      refine ⟨(nk, rows, get), hN, ?_⟩
      conv => whnf
      repeat' first | ((first | refine Bt ?_ | refine Bf ?_ | refine Ni ?_ ?_ | refine Wq ?_ | refine Di ?_ | refine Oi ?_); conv => whnf)
      all_goals first | exact Lf
theorem classes_d {l : List NodeT} {lv : Nat} : (l.length ≤ 64 ∧ (∀ x ∈ l, x.word ≤ 65535) ∧ lv ≤ 16) → Sx.Spec Tryz.prog GG 80 [.d (encL encN 3 l), .d (.int .i64 lv)] [] (.d (encL encC 1 (classesF lv l))) [] := fun h => by
  obtain ⟨⟨nk, rows, get⟩, hN, hs⟩ := classes0 l lv h
  have := Spec.pubNest (post0 := []) (pre := []) (m := 2000) (fn := 900000) hs rfl (fun i j hi hj => by
    have hj : j = 0 := by omega
    subst hj
    exact (hN.cell i hi).ok) (by simp) (by simp [pubV, Nat.beq_refl, inS])
  simp only [pubV, Nat.beq_refl] at this
  refine this.res (LeS.d (DLe.rows rfl ⟨fun i j hi hj => ?_⟩)) (by simp [inS])
  have hj : j = 0 := by omega
  subst hj
  rw [Nat.zero_add]
  exact (hN.cell i hi).le
end Go.Proofs.YtiadnhbclipmhaaGreatDoor

namespace Go.Proofs.YtiadnhbclipmhaaGreatDoor
open Go Go.Sx Go.ChangeShapes Go.WideShapes Go.ChangeAt Go.RowKit
set_option linter.unusedVariables false
set_option linter.unusedSimpArgs false
set_option maxRecDepth 100000
structure Sml (l : List NodeT) : Prop where
  r : Rst l
  l20 : l.length < 20
theorem Sml.sort {l : List NodeT} (h : Sml l) : Sml (sortN l) := ⟨h.r.sort, by rw [sortN_len]; exact h.l20⟩
theorem Sml.wd {l : List NodeT} (h : Sml l) : ∀ x ∈ l, x.word ≤ 65535 := fun x hx => (h.r.ok x hx).2.2.2
theorem ordered_spec {l : List NodeT} : Sml l → Sx.Spec Tryz.prog GG 50 [.d (encL encN 3 l)] [] (.tup [.d (encL encN 3 (sortN l)), .d (.bool true)]) [] := by
  intro h
  have hc := checkF_iff.2 h.r
  have hl := h.l20
  refine spec_intro (E := EE) (fn := Tryz.f50) eok (by kernel_rfl) (by kernel_rfl) Tryz.call50 (by kernel_rfl) (by kernel_rfl) ?_
  conv => whnf
  repeat' first | ((first | refine Cf (sort_d) ?_ ?_ | refine Cf (checkp_spec _) ?_ ?_ | refine Bt ?_ | refine Bf ?_ | refine Ni ?_ ?_ | refine Wq ?_ | refine Di ?_ | refine Oi ?_); conv => whnf) | (refine bc_intro (fun _ => ?_) (fun _ => ?_) <;> (conv => whnf))
  all_goals first | exact ⟨h.r, hl⟩ | omega | (refine ⟨LeS.of_eq ?_, trivial⟩; rw [hc]; rfl)
theorem cls_bound {l : List NodeT} {lv : Nat} (hl : l.length ≤ 64) : (classesF lv l).length ≤ 64 ∧ ∀ c ∈ classesF lv l, c.length ≤ 64 := by
  have key : ∀ (m : List NodeT) (cs : List (List NodeT)) (n : Nat), cs.length ≤ n → (∀ c ∈ cs, c.length ≤ n) → (m.foldl (addC lv) cs).length ≤ n + m.length ∧ ∀ c ∈ m.foldl (addC lv) cs, c.length ≤ n + m.length := by
    intro m
    induction m with
    | nil => intro cs n h1 h2; exact ⟨by simpa using h1, by simpa using h2⟩
    | cons x m ih =>
      intro cs n h1 h2
      have := addC_len (lv := lv) (x := x) (cs := cs)
      have h3 := ih (addC lv cs x) (n + 1) (by omega) (addC_sz h2)
      rw [List.foldl_cons, List.length_cons]
      exact ⟨by omega, fun c hc => by have := h3.2 c hc; omega⟩
  have := key l [] 0 (by simp) (by simp)
  exact ⟨by simp only [classesF]; omega, fun c hc => by have := this.2 c hc; omega⟩
theorem take_snoc {α : Type} [Inhabited α] {xs : List α} {i : Nat} (h : i < xs.length) : xs.take (i + 1) = xs.take i ++ [xs.getD i default] := by
  rw [List.take_add_one, List.getElem?_eq_getElem h]; simp [List.getD, h]
theorem take_ge {α : Type} {xs : List α} {i : Nat} (h : xs.length ≤ i) : xs.take i = xs := List.take_of_length_le h
theorem lists_spec {l : List NodeT} {lv : Nat} : (Sml l ∧ lv ≤ 16) → Sx.Spec Tryz.prog GG 51 [.d (encL encN 3 l), .d (.int .i64 lv)] [] (.d (encL encIs 1 (listsF l lv))) [] := by
  rintro ⟨h, hlv⟩
  have hl := h.sort.l20
  have hlv' : decide ((lv : Int) < 0) = false := by rw [decide_eq_false_iff_not]; omega
  have hlv2 : decide ((lv : Int) > 16) = false := by rw [decide_eq_false_iff_not]; omega
  have hb := cls_bound (l := sortN l) (lv := lv) (by omega)
  have hw := h.sort.wd
  have cI : Tryz.prog.cellsOf 22 = 1 := by kernel_rfl
  have bI : Tryz.prog.bytesOf 22 = 24 := by kernel_rfl
  have cZ : Tryz.prog.cellsOf 3 = 1 := by kernel_rfl
  have bZ : Tryz.prog.bytesOf 3 = 8 := by kernel_rfl
  have hll : (listsF l lv).length = (classesF lv (sortN l)).length := by simp [listsF]
  refine spec_intro (E := EE) (fn := Tryz.f51) eok (by kernel_rfl) (by kernel_rfl) Tryz.call51 (by kernel_rfl) (by kernel_rfl) ?_
  conv => whnf
  repeat' first | ((first | refine Cf (ordered_spec) ?_ ?_ | refine Cf (classes_d) ?_ ?_ | refine Bt ?_ | refine Bf ?_ | refine Ni ?_ ?_ | refine Wq ?_ | refine Di ?_ | refine Oi ?_); conv => whnf) | (refine bc_intro (fun _ => ?_) (fun _ => ?_) <;> (conv => whnf))
  · refine loop_auto [30, 31] [] (fun i : Nat => [(32, .d (.int .i64 i)), (7, .osl 2000 1 0 i)]) (fun i => [(2000, .row 22 1 i (cellOf encIs ((listsF l lv).take i)))]) (fun i => i ≤ (classesF lv (sortN l)).length) (fun i => (classesF lv (sortN l)).length - i) 0 ?_ (fun i hi => ?_) (Nat.zero_le _)
    · conv => whnf
      repeat' first | ((first | refine Bt ?_ | refine Bf ?_ | refine Ni ?_ ?_ | refine Wq ?_ | refine Di ?_ | refine Oi ?_); conv => whnf) | (refine bc_intro (fun _ => ?_) (fun _ => ?_) <;> (conv => whnf))
      all_goals try first | exact Lq
      all_goals exact row_nil
    · have hs : i < (classesF lv (sortN l)).length → IntKind.i64.wrap ((i : Int) + 1) = ((i + 1 : Nat) : Int) := fun h => wrap_succ (n := 1000) (by omega) (by omega)
      conv => whnf
      refine bc_intro (fun hlt => ?_) (fun hlt => ?_)
      · have hlt0 : i < (classesF lv (sortN l)).length := by simpa using hlt
        have hci := hb.2 _ (getD_mem' hlt0)
        have hgi : (listsF l lv).getD i default = ((classesF lv (sortN l)).getD i default).map (·.id) := by simp [listsF, List.getD, hlt0]
        have hcl : (((classesF lv (sortN l)).getD i default).map (·.id)).length = ((classesF lv (sortN l)).getD i default).length := by simp
        generalize hc : (classesF lv (sortN l)).getD i default = c at *
        conv => whnf
        repeat' first | ((first | refine Bt ?_ | refine Bf ?_ | refine Ni ?_ ?_ | refine Wq ?_ | refine Di ?_ | refine Oi ?_); conv => whnf)
        · refine loop_auto [30, 31, 32, 7, 36, 37] [2000] (fun j : Nat => [(38, .d (.int .i64 j)), (10, .osl 3000 1 0 j)]) (fun j => [(3000, .row 3 1 j (cellOf encZ ((c.map (·.id)).take j)))]) (fun j => j ≤ c.length) (fun j => c.length - j) 0 ?_ (fun j hj => ?_) (Nat.zero_le _)
          · conv => whnf
            repeat' first | ((first | refine Bt ?_ | refine Bf ?_ | refine Ni ?_ ?_ | refine Wq ?_ | refine Di ?_ | refine Oi ?_); conv => whnf) | (refine bc_intro (fun _ => ?_) (fun _ => ?_) <;> (conv => whnf))
            all_goals try first | exact Lq
            all_goals exact row_nil
          · have hsj : j < c.length → IntKind.i64.wrap ((j : Int) + 1) = ((j + 1 : Nat) : Int) := fun h => wrap_succ (n := 1000) (by omega) (by omega)
            conv => whnf
            refine bc_intro (fun hlj => ?_) (fun hlj => ?_)
            · have hlj0 : j < c.length := by rw [decide_eq_true_eq] at hlj; simp only [Int.toNat_natCast, hc] at hlj; omega
              conv => whnf
              repeat' first | ((first | refine NextVC.mk (j + 1) ?_ ?_ ?_ | refine Bt ?_ | refine Bf ?_ | refine Ni ?_ ?_ | refine Wq ?_ | refine Di ?_ | refine Oi ?_); conv => whnf) | (refine bc_intro (fun _ => ?_) (fun _ => ?_) <;> (conv => whnf))
              all_goals try simp only [cZ, bZ, Int.toNat_natCast, hc]
              all_goals first
                | exact Lf | exact ⟨trivial, trivial, trivial⟩ | exact ⟨trivial, by omega, by omega⟩ | exact ⟨by omega, by omega⟩ | exact DLe.of_eq (by rw [hsj hlj0])
                | (rw [take_snoc (by simpa using hlj0)]
                   refine row_snoc (by rw [List.length_take, List.length_map]; omega) (RowLe.refl _ _ _) (jlt1 (DLe.of_eq ?_))
                   have e : (c.map (·.id)).getD j default = (c.getD j default).id := by simp [List.getD, hlj0]
                   rw [e]
                   exact rfl)
            · have hlj0 : c.length = j := by rw [decide_eq_false_iff_not] at hlj; simp only [Int.toNat_natCast, hc] at hlj; omega
              conv => whnf
              repeat' first | ((first | refine NextVC.mk (i + 1) ?_ ?_ ?_ | refine Bt ?_ | refine Bf ?_ | refine Ni ?_ ?_ | refine Wq ?_ | refine Di ?_ | refine Oi ?_); conv => whnf) | (refine bc_intro (fun _ => ?_) (fun _ => ?_) <;> (conv => whnf))
              all_goals try simp only [cI, bI, Int.toNat_natCast, hc]
              all_goals first
                | exact Lf | exact ⟨trivial, trivial, trivial⟩ | exact ⟨trivial, by omega, by omega⟩ | exact ⟨by omega, by omega⟩ | exact DLe.of_eq (by rw [hs hlt0])
                | (rw [take_snoc (by simpa [listsF] using hlt0)]
                   refine row_snoc (by simp [listsF]; omega) (RowLe.refl _ _ _) (jlt1 ?_)
                   rw [hgi]
                   refine DLe.rows (by simp; omega) (.of_eq fun a b ha hb => ?_)
                   rw [Nat.zero_add, List.take_of_length_le (by simp; omega)]; done)
        · exact ⟨by omega, by omega⟩
      · have hlt0 : (classesF lv (sortN l)).length ≤ i := by simpa using hlt
        have e : i = (listsF l lv).length := by omega
        conv => whnf
        repeat' first | ((first | refine Bt ?_ | refine Bf ?_ | refine Ni ?_ ?_ | refine Wq ?_ | refine Di ?_ | refine Oi ?_); conv => whnf) | (refine bc_intro (fun _ => ?_) (fun _ => ?_) <;> (conv => whnf))
        all_goals first
          | (refine ⟨LeS.d (DLe.rows e ?_), trivial⟩
             rw [take_ge (by omega)]
             exact row_zero)
  · exact ⟨by omega, hw, hlv⟩
  · exact h
end Go.Proofs.YtiadnhbclipmhaaGreatDoor
