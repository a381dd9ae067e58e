/- Contracts of functions that the law reaches: YtfjiffbacallhaaFullL. Written for this claim. -/
import Derived.Test.YtfjiffbacallhaaFull
import Derived.ProofKit
import Derived.OpenShut
namespace Go.Proofs.Ytfjiffbacallhaa
open Go Go.Sx Go.ChangeShapes Go.WideShapes Go.ChangeAt Go.WideMaps Go.WideElems Go.RowKit
set_option linter.unusedVariables false
set_option linter.unusedSimpArgs false
set_option maxRecDepth 100000
theorem bytesR_one (v : Int) : bytesR (tabF (fun x j => [D.int IntKind.u8 0].getD j default) [(0, [D.int IntKind.u8 v])]) 0 1 = some [UInt8.ofNat v.toNat] := rfl
theorem cutK_at (F : List Row) (n : Int) : (TabOk F ∧ 0 ≤ n ∧ n ≤ F.length) → Sx.Spec Try.prog GG 8 [.d (encL encRow 2 F), .d (.int .i64 n)] [] (.tup [.agg [.d (.str (bndK F n.toNat)), .d (.bool (bndT F n.toNat))], .d (.bool true)]) [] := by
  rintro ⟨h, h0, hn⟩
  have := cutp_spec F n.toNat (by have := h.len; omega)
  rw [bnd_cut h (by omega), Int.toNat_of_nonneg h0] at this
  exact this
abbrev F1024 : List Row := manyF (Int.toNat 1024)
theorem f_tab : TabOk F1024 := many_tab (by decide)
theorem f_len : F1024.length = 1024 := many_len
theorem f_x : (getF F1024 [120]).2 = false := by
  have h : ∀ r ∈ F1024, r.1 ≠ [120] := fun r hr e => by
    have := many_x r hr
    rw [e, bl_irrefl] at this
    cases this
  have := get_take (n := 1024) h
  rwa [show F1024.take 1024 = F1024 from List.take_of_length_le (by rw [f_len]; omega)] at this
theorem f_x2 : (getF (F1024.take 1023) [120]).2 = false := get_take fun r hr e => by
  have := many_x r hr
  rw [e, bl_irrefl] at this
  cases this
theorem row_x : rowOk ([120], []) = true := by decide
/-- a value is put -/
theorem put1 (m v : Int) (h : 0 ≤ m ∧ m < 1024) : ∃ G : List Row, (G.length = 1024 ∧ getF G (F1024.getD m.toNat default).1 = ([UInt8.ofNat v.toNat], true)) ∧
    Sx.Spec Try.prog GG 6 [.d (encL encRow 2 F1024), .agg [.d (.str (F1024.getD m.toNat default).1), .d (.str [UInt8.ofNat v.toNat])]] [] (.tup [.d (encL encRow 2 G), .d (.int .i64 0)]) [] := by
  have hi : m.toNat < F1024.length := by rw [f_len]; omega
  have hmem := getD_memT hi
  have hr := f_tab.ok _ hmem
  obtain ⟨G, e, hl, hg⟩ := full_put f_tab (k := (F1024.getD m.toNat default).1) (v := [UInt8.ofNat v.toNat]) (get_key hmem) (by
    simp only [rowOk, Bool.and_eq_true] at hr ⊢
    exact ⟨hr.1, by simp⟩)
  refine ⟨G, ⟨by rw [hl, f_len], hg⟩, ?_⟩
  have := putp_spec F1024 (F1024.getD m.toNat default).1 [UInt8.ofNat v.toNat]
  rw [e] at this
  exact this
theorem put2 : Sx.Spec Try.prog GG 6 [.d (encL encRow 2 F1024), .agg [.d (.str [120]), .d (.str [])]] [] (.tup [.d (encL encRow 2 ([] : List Row)), .d (.int .i64 16)]) [] := by
  have := putp_spec F1024 [120] []
  rw [full_new f_tab f_x row_x f_len] at this
  exact this
theorem put3 {n : Nat} {g : Nat → Nat → D} : (n = 1023 ∧ RowLe n 2 g (cellOf encRow (F1024.take 1023))) → ∃ G : List Row, G.length = 1024 ∧
    Sx.Spec Try.prog GG 6 [.d (.list n 2 g), .agg [.d (.str [120]), .d (.str [])]] [] (.tup [.d (encL encRow 2 G), .d (.int .i64 0)]) [] := by
  rintro ⟨hn, hg⟩
  have hl : (F1024.take 1023).length = 1023 := by rw [List.length_take, f_len]; rfl
  obtain ⟨G, e, hG⟩ := room_new (tab_take f_tab 1023) f_x2 row_x (by rw [hl]; omega)
  refine ⟨G, by rw [hG, hl], ?_⟩
  have := put_at (F1024.take 1023) [120] [] ⟨by rw [hn, hl], hg⟩
  rw [e] at this
  exact this
theorem row_take {n : Nat} (hn : n ≤ 1023) : RowLe n 2 (fun i j => cellOf encRow F1024 (Int.toNat 0 + i) j) (cellOf encRow (F1024.take 1023)) := by
  refine ⟨fun a j ha hj => DLe.of_eq ?_⟩
  have : (F1024.take 1023).getD a default = F1024.getD (Int.toNat 0 + a) default := by
    rw [show Int.toNat 0 + a = a by simp]
    simp [List.getD, List.getElem?_take, show a < 1023 by omega]
  simp only [cellOf, this]
theorem cutF_at (m : Int) (h : 0 ≤ m ∧ m < 1025) : Sx.Spec Try.prog GG 8 [.d (encL encRow 2 F1024), .d (.int .i64 m)] [] (.tup [.agg [.d (.str (bndK F1024 m.toNat)), .d (.bool (bndT F1024 m.toNat))], .d (.bool true)]) [] :=
  cutK_at F1024 m ⟨f_tab, h.1, by rw [f_len]; omega⟩
theorem get_at {G : List Row} {k v : List UInt8} : (G.length = 1024 ∧ getF G k = (v, true)) → Sx.Spec Try.prog GG 9 [.d (encL encRow 2 G), .d (.str k)] [] (.tup [.d (.str v), .d (.bool true)]) [] := by
  rintro ⟨h1, h2⟩
  have := getp_spec G k (by omega)
  rw [h2] at this
  exact this
theorem valid_at : Sx.Spec Try.prog GG 10 [.d (encL encRow 2 (manyF (Int.toNat 1025)))] [] (.d (.bool false)) [] := by
  have := validTp_spec (manyF (Int.toNat 1025))
  rw [valid_long (by rw [many_len]; decide)] at this
  exact this
theorem slice_at (m : Int) (h : 0 ≤ m ∧ m < 1025) : ∃ S : List Row, S.length = m.toNat ∧ Sx.Spec Try.prog GG 11 [.d (encL encRow 2 F1024), .agg [.d (.str []), .d (.bool false), .d (.str (bndK F1024 m.toNat)), .d (.bool (bndT F1024 m.toNat))]] [] (.d (encL encRow 2 S)) [] :=
  ⟨_, bnd_slice f_tab (by rw [f_len]; omega), slicep_spec F1024 _ _ _ _ (by rw [f_len]; omega)⟩
set_option maxHeartbeats 4000000 in
theorem tableFull_law (n k v : Int) (hn : -9223372036854775808 ≤ n ∧ n < 9223372036854775808) (hk : -9223372036854775808 ≤ k ∧ k < 9223372036854775808) (hv : 0 ≤ v ∧ v < 256) : Sx.Spec Try.prog GG 3 [.d (.int .i64 n), .d (.int .i64 k), .d (.int .u8 v)] [] (.d (.bool true)) [] := by
  have hm0 := Int.emod_nonneg n (show (1024 : Int) ≠ 0 by decide)
  have hm1 := Int.emod_lt_of_pos n (show (0 : Int) < 1024 by decide)
  have hk0 := Int.emod_nonneg k (show (1025 : Int) ≠ 0 by decide)
  have hk1 := Int.emod_lt_of_pos k (show (0 : Int) < 1025 by decide)
  refine spec_intro (E := EE) (fn := Try.f3) eok (by kernel_rfl) (by kernel_rfl) Try.call3 (by kernel_rfl) (by kernel_rfl) ?_
  conv => whnf
  repeat' first
    | (refine call_if (many_at _) (by first | exact .inl rfl | exact .inr ⟨rfl, rfl⟩) (need_intro ?_ ?_); (conv => whnf))
    | (refine call_if (mod_spec _ _) (by first | exact .inl rfl | exact .inr ⟨rfl, rfl⟩) (need_intro ?_ ?_); (conv => whnf))
    | (refine call_some (put1 (n % 1024) v ⟨hm0, hm1⟩) (fun _ => by first | exact .inl rfl | exact .inr ⟨rfl, rfl⟩) ?_; rintro G ⟨h1, h2⟩; (conv => whnf))
    | (refine call_intro (put2) ?_ (by first | exact .inl rfl | exact .inr ⟨rfl, rfl⟩); (conv => whnf))
    | (refine call_if (replace_full _) (by first | exact .inl rfl | exact .inr ⟨rfl, rfl⟩) (need_intro ?_ ?_); (conv => whnf))
    | (refine call_some_if (put3) (fun _ => by first | exact .inl rfl | exact .inr ⟨rfl, rfl⟩) (need_intro ?_ ?_); rintro G3 h3; (conv => whnf))
    | (refine call_intro (cutF_at (k % 1025) ⟨hk0, hk1⟩) ?_ (by first | exact .inl rfl | exact .inr ⟨rfl, rfl⟩); (conv => whnf))
    | (refine call_if (get_at (v := [UInt8.ofNat v.toNat])) (by first | exact .inl rfl | exact .inr ⟨rfl, rfl⟩) (need_intro ?_ ?_); (conv => whnf))
    | (refine call_intro (valid_at) ?_ (by first | exact .inl rfl | exact .inr ⟨rfl, rfl⟩); (conv => whnf))
    | (refine call_some (slice_at (k % 1025) ⟨hk0, hk1⟩) (fun _ => by first | exact .inl rfl | exact .inr ⟨rfl, rfl⟩) ?_; rintro S h4; (conv => whnf))
    | (refine call_intro (awake_spec) ?_ (by first | exact .inl rfl | exact .inr ⟨rfl, rfl⟩); (conv => whnf))
    | (refine bc_true (by assumption) ?_; (conv => whnf))
    | (refine bc_false (by assumption) ?_; (conv => whnf))
    | (refine bc_intro (fun _ => ?_) (fun _ => ?_) <;> (conv => whnf))
    | (refine need_intro ?_ ?_; (conv => whnf))
    | (refine wk_refl ?_; (conv => whnf))
    | (refine draw_intro (by kernel_rfl) ?_; (conv => whnf))
    | (refine ord_intro (by kernel_rfl) ?_; (conv => whnf))
  all_goals first
    | exact bytesR_one v
    | exact ⟨⟨f_tab, f_len⟩, many_x, rfl, .all (by repeat' first | exact trivial | exact rfl | apply And.intro)⟩
    | exact ⟨rfl, row_take (by decide)⟩
    | exact ⟨h1, h2⟩
    | exact ⟨LeS.refl _, trivial⟩
    | omega
    | exact ⟨by omega, by omega⟩
    | exact ⟨⟨by omega, by omega⟩, by omega⟩
    | exact ⟨by rw [show (manyF (Int.toNat 1024)).length = 1024 from f_len]; omega, by rw [show (manyF (Int.toNat 1024)).length = 1024 from f_len]; omega⟩
    | (rw [show (manyF (Int.toNat 1024)).length = 1024 from f_len]; decide)
    | (rw [show (manyF (Int.toNat 1024)).length = 1024 from f_len]; exact ⟨by omega, by omega⟩)
    | (exfalso
       rename_i z
       first
         | (simp only [beq_eq_false_iff_ne, ne_eq] at *; omega)
         | exact absurd z (by show ¬ (([UInt8.ofNat v.toNat] == [UInt8.ofNat v.toNat]) = false); simp))
    | trace_state
theorem inv3 {P : Program} {R : Nat} {a b c : Nat} {dss : List (List D)} (h : All2 (wfT P R 12) [a, b, c] dss) : ∃ x y z, dss = [x, y, z] ∧ wfT P R 12 a x ∧ wfT P R 12 b y ∧ wfT P R 12 c z := by
  cases h with
  | cons h1 h => cases h with
    | cons h2 h => cases h with
      | cons h3 h => cases h; exact ⟨_, _, _, rfl, h1, h2, h3⟩
theorem tableFull_all (dss : List (List D)) (h : All2 (wfT Try.prog reachBytes 12) [3, 3, 5] dss) : Sx.Spec Try.prog GG 3 (svs Try.prog [3, 3, 5] dss) [] (.d (.bool true)) [] := by
  obtain ⟨x, y, z, rfl, hx, hy, hz⟩ := inv3 h
  obtain ⟨n, rfl, wn⟩ := hx
  obtain ⟨k, rfl, wk⟩ := hy
  obtain ⟨v, rfl, wv⟩ := hz
  exact tableFull_law n k v (wf_i64 wn) (wf_i64 wk) (wf_u8 wv)
end Go.Proofs.Ytfjiffbacallhaa
