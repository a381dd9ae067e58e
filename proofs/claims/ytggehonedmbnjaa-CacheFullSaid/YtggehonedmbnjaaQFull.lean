/- Contracts of functions that the law reaches: YtggehonedmbnjaaQFull. Written for this claim. -/
import Derived.Test.YtggehonedmbnjaaQLaw
import Derived.Test.YtggehonedmbnjaaSxCac
import Derived.ProofKit
import Derived.OpenShut
namespace Go.Proofs.Ytggehonedmbnjaa
open Go Go.Sx Go.ChangeShapes Go.WideShapes Go.ChangeAt Go.RowKit
set_option linter.unusedVariables false
set_option linter.unusedSimpArgs false
set_option maxRecDepth 100000
theorem wrapu8_of {n : Int} (h1 : 0 ≤ n) (h2 : n < 256) : IntKind.u8.wrap n = n := by
  simp [IntKind.wrap, IntKind.bits, IntKind.signed]
  omega
theorem byte_key {n : Int} {i : Nat} (h : n = (i : Int)) (hi : i < 64) : [UInt8.ofNat (IntKind.u8.wrap n).toNat] = [UInt8.ofNat i] := by
  rw [h, wrapu8_of (by omega) (by omega)]; rfl
theorem bytes_one (v : Int) : bytesL (tabF (fun x j => [D.int IntKind.u8 0].getD j default) [(0, [D.int IntKind.u8 v])]) 1 = [UInt8.ofNat v.toNat] := rfl
theorem bytesR_one (v : Int) : bytesR (tabF (fun x j => [D.int IntKind.u8 0].getD j default) [(0, [D.int IntKind.u8 v])]) 0 1 = some [UInt8.ofNat v.toNat] := rfl
theorem key_mod (n : Int) (hn : 0 ≤ n ∧ n < 256) : ∃ m, m < 64 ∧ UInt8.ofNat (IntKind.u8.wrap ((IntKind.i64.wrap n).tmod 64)).toNat = UInt8.ofNat m := by
  refine ⟨n.toNat % 64, Nat.mod_lt _ (by omega), ?_⟩
  rw [wrap_of (by omega) (by omega), wrapu8_of (by have := Int.tmod_nonneg 64 hn.1; omega) (by have := Int.tmod_lt_of_pos n (show (0 : Int) < 64 by omega); omega), Int.tmod_eq_emod_of_nonneg hn.1]
  congr 1
  omega
theorem full_ls {i : Nat} (hi : i ≤ 64) : LsB (fullN i) := by
  refine ⟨by rw [full_len]; omega, fun x hx => ?_, fun x hx => ?_⟩ <;>
  · obtain ⟨j, _, rfl⟩ := List.mem_map.1 hx
    simp [fullX]
set_option maxHeartbeats 4000000 in
theorem cacheFull_law (n : Int) (hn : 0 ≤ n ∧ n < 256) : Sx.Spec Try.prog GG 3 [.d (.int .u8 n)] [] (.d (.bool true)) [] := by
  refine spec_intro (E := EE) (fn := Try.f3) eok (by kernel_rfl) (by kernel_rfl) Try.call3 (by kernel_rfl) (by kernel_rfl) ?_
  obtain ⟨m, hm, hk⟩ := key_mod n hn
  have f1 := full_send m hm
  have f2 := full_begin m hm
  conv => whnf
  repeat' first
    | (refine bc_true (by assumption) ?_; (conv => whnf))
    | (refine bc_false (by assumption) ?_; (conv => whnf))
    | (refine need_intro ?_ ?_; (conv => whnf))
    | (refine wk_refl ?_; (conv => whnf))
    | (refine draw_intro (by kernel_rfl) ?_; (conv => whnf))
    | (refine ord_intro (by kernel_rfl) ?_; (conv => whnf))
  refine loop_auto [0, 2] [] (fun i : Nat => [(5, .d (.int .i64 i)), (4, .d (.int .i64 0)), (3, .d (encL encLse 9 (fullN i)))]) (fun i => []) (fun i => i ≤ 64) (fun i => 64 - i) 0 ?_ (fun i hi => ?_) (by omega)
  · conv => whnf
    repeat' first
      | (refine bc_true (by assumption) ?_; (conv => whnf))
      | (refine bc_false (by assumption) ?_; (conv => whnf))
      | (refine bc_intro (fun _ => ?_) (fun _ => ?_) <;> (conv => whnf))
      | (refine need_intro ?_ ?_; (conv => whnf))
      | (refine wk_refl ?_; (conv => whnf))
      | (refine draw_intro (by kernel_rfl) ?_; (conv => whnf))
      | (refine ord_intro (by kernel_rfl) ?_; (conv => whnf))
    all_goals first | exact trivial | exact DLe.refl _ | exact DLe.nil | trace_state
  · have hs : IntKind.i64.wrap ((i : Int) + 1) = ((i + 1 : Nat) : Int) := wrap_succ (n := 100) (by omega) (by omega)
    conv => whnf
    repeat' first
      | (refine call_if (sendp_spec (fullN i) _ _ _ _) (by first | exact .inl rfl | exact .inr ⟨rfl, rfl⟩) (need_intro ?_ ?_); (conv => whnf))
      | (refine call_if (beginp_spec (fullN i) _ _ _) (by first | exact .inl rfl | exact .inr ⟨rfl, rfl⟩) (need_intro ?_ ?_); (conv => whnf))
      | (refine call_if (crashp_spec (fullN i) 1) (by first | exact .inl rfl | exact .inr ⟨rfl, rfl⟩) (need_intro ?_ ?_); (conv => whnf))
      | (refine call_intro (awake_spec) ?_ (by first | exact .inl rfl | exact .inr ⟨rfl, rfl⟩); (conv => whnf))
      | (refine NextVC.mk (i + 1) ?_ ?_ ?_; (conv => whnf))
      | (refine bc_true (by assumption) ?_; (conv => whnf))
      | (refine bc_false (by assumption) ?_; (conv => whnf))
      | (refine bc_intro (fun _ => ?_) (fun _ => ?_) <;> (conv => whnf))
      | (refine need_intro ?_ ?_; (conv => whnf))
      | (refine wk_refl ?_; (conv => whnf))
      | (refine draw_intro (by kernel_rfl) ?_; (conv => whnf))
      | (refine ord_intro (by kernel_rfl) ?_; (conv => whnf))
    all_goals try simp only [bytes_one, bytesR_one, hk, decide_eq_true_eq, decide_eq_false_iff_not] at *
    all_goals first
      | exact trivial
      | rfl
      | omega
      | exact DLe.refl _
      | exact DLe.of_eq (by rw [hs])
      | exact full_ls (by omega)
      | exact ⟨full_ls (by omega), by rw [full_len]; omega⟩
      | exact ⟨LeS.refl _, trivial⟩
      | exact DLe.of_eq (by rw [byte_key rfl (by omega), full_step i (by omega)])
      | (exfalso
         obtain rfl : i = 64 := by omega
         simp [full_len, full_x, full_b, full_crash, f1, f2] at *
         done)
      | trace_state
theorem inv1 {P : Program} {R : Nat} {a : Nat} {dss : List (List D)} (h : All2 (wfT P R 12) [a] dss) : ∃ x, dss = [x] ∧ wfT P R 12 a x := by
  cases h with
  | cons h1 h => cases h; exact ⟨_, rfl, h1⟩
theorem cacheFull_all (dss : List (List D)) (h : All2 (wfT Try.prog reachBytes 12) [5] dss) : Sx.Spec Try.prog GG 3 (svs Try.prog [5] dss) [] (.d (.bool true)) [] := by
  obtain ⟨x, rfl, hx⟩ := inv1 h
  obtain ⟨n, rfl, wn⟩ := hx
  exact cacheFull_law n (wf_u8 wn)
end Go.Proofs.Ytggehonedmbnjaa
