/- What the small functions of the package disk and of its reference compute. No claim of its own. -/
import Derived.Test.YtfehckdcjgmcpaaADisk1
import Derived.Test.YtfehckdcjgmcpaaDiskPlain5
namespace Go.Proofs.Ytfehckdcjgmcpaa
open Go.Am

theorem clone_pc (nil : Bool) (els : List (List V)) (hn : nil = true → els = []) (hl : els.length ≤ 4294967296) : PC Try.prog 31 [.lst nil 2 els .none] (.lst nil 2 els .none) := by
  refine PC.ofS tabOk mixed (fn := Try.f31) (by kernel_rfl) rfl (by kernel_rfl) rfl rfl ?_
  conv => whnf
  refine ⟨fun h => ?_, fun h => ?_⟩
  · conv => whnf
    rw [h, hn h]
    exact SubV.nil _ _ _
  · conv => whnf
    refine ⟨fits_small (by simpa using hl) (by decide), ?_⟩
    conv => whnf
    rw [h]
    exact SubV.refl _

theorem same_pc (nil : Bool) (d : Gw.Disk.Disk) (hn : nil = true → d.loose = []) (hl : d.loose.length ≤ 4294967296) : PC Try.prog 25 [encD nil d] (encD nil d) := by
  obtain ⟨size, firm, loose⟩ := d
  have hn : nil = true → loose = [] := hn
  show PC Try.prog _ [.agg [.int .i64 size, .str firm.data.toList, .lst nil 2 (loose.map encP) .none]] _
  refine PC.of tabOk mixed (fn := Try.f25) (by kernel_rfl) rfl (by kernel_rfl) rfl rfl ?_
  conv => whnf
  refine AC.of_pc (clone_pc nil _ (fun h => by rw [hn h]; rfl) (by rw [List.length_map]; exact hl)) rfl ?_
  conv => whnf
  rfl

theorem zeros_pc (n : Int) (h : n ≤ 1048576) : PC Try.prog 28 [.int .i64 n] (.str (List.replicate n.toNat 0)) := by
  refine PC.of tabOk mixed (fn := Try.f28) (by kernel_rfl) rfl (by kernel_rfl) rfl rfl ?_
  conv => whnf
  refine ⟨⟨by simp only; omega, rfl, fits_small (by simp only; omega) (by omega)⟩, ?_⟩
  conv => whnf
  refine ⟨List.replicate (max n 0).toNat 0, ?_, ?_⟩
  · show 0 + (max n 0).toNat ≤ (repl (max n 0).toNat [V.int .u8 0]).length ∧ ((repl (max n 0).toNat [V.int .u8 0]).drop 0).take (max n 0).toNat = _
    rw [repl_bytes]
    exact bytesV_all' (by simp)
  conv => whnf
  rw [show (max n 0).toNat = n.toNat by omega]

theorem encD_new (size : Int) : encD true (Gw.Disk.new size) = .agg [.int .i64 (min (max size 0) 65536), .str (List.replicate ((min (max size 0) 65536).toNat * 16) 0), .lst true 2 [] .none] := by
  simp [encD, Gw.Disk.new]

theorem rnew_pc (size : Int) : PC Try.prog 24 [.int .i64 size] (encD true (Gw.Disk.new size)) := by
  rw [encD_new]
  refine PC.ofS tabOk mixed (fn := Try.f24) (by kernel_rfl) rfl (by kernel_rfl) rfl rfl ?_
  conv => whnf
  have hw : IntKind.i64.wrap (16 * min (max size 0) 65536) = 16 * min (max size 0) 65536 := w64 (by omega) (by omega)
  refine AC.of_pc (zeros_pc (IntKind.i64.wrap (16 * min (max size 0) 65536)) (by rw [hw]; omega)) rfl ?_
  conv => whnf
  rw [hw]
  refine SubV.agg (.cons (.of_eq ?_) (.cons (.of_eq ?_) (.cons (.nil _ _ _) .nil)))
  · rfl
  · rw [show (16 * min (max size 0) 65536).toNat = (min (max size 0) 65536).toNat * 16 by omega]

theorem new_pc (size : Int) : PC Try.prog 23 [.int .i64 size] (encD true (Gw.Disk.new size)) := by
  rw [encD_new]
  refine PC.ofS tabOk mixed (fn := Try.f23) (by kernel_rfl) rfl (by kernel_rfl) rfl rfl ?_
  conv => whnf
  have hw : IntKind.i64.wrap (min (max size 0) 65536 * 16) = min (max size 0) 65536 * 16 := w64 (by omega) (by omega)
  refine ⟨⟨by show 0 ≤ IntKind.i64.wrap (min (max size 0) 65536 * 16); omega, rfl, fits_small (by show (IntKind.i64.wrap (min (max size 0) 65536 * 16)).toNat ≤ _; omega) (by decide)⟩, ?_⟩
  conv => whnf
  refine ⟨List.replicate (min (max size 0) 65536 * 16).toNat 0, ?_, ?_⟩
  · show 0 + (IntKind.i64.wrap (min (max size 0) 65536 * 16)).toNat ≤ (repl (IntKind.i64.wrap (min (max size 0) 65536 * 16)).toNat [V.int .u8 0]).length ∧ ((repl (IntKind.i64.wrap (min (max size 0) 65536 * 16)).toNat [V.int .u8 0]).drop 0).take (IntKind.i64.wrap (min (max size 0) 65536 * 16)).toNat = _
    rw [repl_bytes, hw]
    exact bytesV_all' (by simp)
  conv => whnf
  refine SubV.agg (.cons (.of_eq ?_) (.cons (.of_eq ?_) (.cons (.nil _ _ _) .nil)))
  · rfl
  · rw [show (min (max size 0) 65536 * 16).toNat = (min (max size 0) 65536).toNat * 16 by omega]

theorem sector_pc (nil : Bool) (d : Gw.Disk.Disk) (i : Nat) (hc : Gw.Disk.check d = true) (hi : (i : Int) < d.size) (hl : d.loose.length ≤ 1048576) : PC Try.prog 30 [encD nil d, .int .i64 i] (.str (Gw.Disk.sec d i)) := by
  have hs := Gw.Disk.check_spec hc
  obtain ⟨size, firm, loose⟩ := d
  simp only at hs hi hl
  obtain ⟨z1, z2, z3, z4⟩ := hs
  show PC Try.prog _ [.agg [.int .i64 size, .str firm.data.toList, .lst nil 2 (loose.map encP) .none], .int .i64 i] (.str (loose.foldl (Gw.Disk.put1 (i : Int)) ((firm.data.toList.drop (i * 16)).take 16)))
  refine PC.of tabOk mixed (fn := Try.f30) (by kernel_rfl) rfl (by kernel_rfl) rfl rfl ?_
  conv => whnf
  refine AW.loop (fun k : Nat => [(.tmp 1, .v (.int .i64 i)), (.tmp 2, .v (.ptr 0 0)), (.tmp 5, .v (.int .i64 ((k : Int) - 1))),
    (.blk 0, .box 24 [.int .i64 size, .str firm.data.toList, .lst nil 2 (loose.map encP) .none])]) 1 (fun k => k ≤ loose.length ∧ ∀ f, (loose.drop k).foldl (Gw.Disk.put1 (i : Int)) f = f) (fun k => k) (by decide) loose.length ⟨Nat.le_refl _, fun f => by rw [List.drop_length]; rfl⟩
    ⟨rfl, rfl, rfl, rfl, ?_, rfl, rfl, rfl, trivial⟩ ?_
  · show C.v (V.int .i64 (IntKind.i64.wrap (((loose.map encP).length : Int) - 1))) = _
    rw [List.length_map, w64 (by omega) (by omega)]
  rintro k ⟨hk, hall⟩
  refine ev_sound tabOk mixed _ _ _ _ ?_
  conv => whnf
  refine ⟨fun h => ?_, fun h => ?_⟩
  · have h := of_decide_eq_true h
    obtain ⟨k, rfl⟩ : ∃ j, k = j + 1 := ⟨k - 1, by omega⟩
    have hlt : k < loose.length := by omega
    have htk : loose.drop k = loose[k] :: loose.drop (k + 1) := List.drop_eq_getElem_cons hlt
    obtain ⟨⟨at_, data⟩, hp⟩ : ∃ p, loose[k] = p := ⟨_, rfl⟩
    have hel : (loose.map encP)[(((k + 1 : Nat) : Int) - 1).toNat]? = some [.int .i64 at_, .str data.data.toList] := by rw [show (((k + 1 : Nat) : Int) - 1).toNat = k by omega, encP_get hlt, hp]; rfl
    rw [hp] at htk
    conv => whnf
    refine ⟨_, ⟨by omega, hel⟩, ?_⟩
    conv => whnf
    refine ⟨fun h5 => ?_, fun h5 => ?_⟩
    · have h5 : at_ = (i : Int) := by simpa using h5
      conv => whnf
      refine ⟨_, ⟨by omega, hel⟩, ?_⟩
      conv => whnf
      rw [← List.take_append_drop k loose, List.foldl_append, htk, List.foldl_cons, hall, Gw.Disk.put1, if_pos h5]
    · have h5 : at_ ≠ (i : Int) := by simpa using h5
      conv => whnf
      refine ⟨k, ⟨by omega, fun f => ?_⟩, by show k < k + 1; omega, rfl, rfl, rfl, rfl, ?_, rfl, rfl, rfl, trivial⟩
      · rw [htk, List.foldl_cons, hall, Gw.Disk.put1, if_neg h5]
      · show C.v (V.int .i64 (IntKind.i64.wrap (((k + 1 : Nat) : Int) - 1 - 1))) = _
        rw [w64 (by omega) (by omega)]
        congr 2
        omega
  · have h := of_decide_eq_false h
    obtain rfl : k = 0 := by omega
    conv => whnf
    have hfl : firm.data.toList.length = firm.size := rfl
    rw [w64 (x := 16 * (i : Int)) (by omega) (by omega), w64 (x := 16 * (i : Int) + 16) (by omega) (by omega)]
    refine ⟨by omega, ?_⟩
    conv => whnf
    have := hall ((firm.data.toList.drop (i * 16)).take 16)
    rw [List.drop_zero] at this
    rw [this, show (16 * (i : Int)).toNat = i * 16 by omega, show (16 * (i : Int) + 16).toNat = i * 16 + 16 by omega, List.drop_take, show i * 16 + 16 - i * 16 = 16 by omega]

theorem few_pc (nil : Bool) (d : Gw.Disk.Disk) (hl : d.loose.length ≤ 9223372036854775807) : PC Try.prog 11 [encD nil d] (.bool (d.loose.all (fun p => decide (p.2.size ≤ 100)) && (decide (d.size ≤ 100) && (decide (d.firm.size ≤ 2000) && decide (d.loose.length ≤ 100))))) := by
  obtain ⟨size, firm, loose⟩ := d
  simp only at hl
  show PC Try.prog _ [.agg [.int .i64 size, .str firm.data.toList, .lst nil 2 (loose.map encP) .none]] (.bool (loose.all (fun p => decide (p.2.size ≤ 100)) && (decide (size ≤ 100) && (decide (firm.size ≤ 2000) && decide (loose.length ≤ 100)))))
  refine PC.of tabOk mixed (fn := Try.f11) (by kernel_rfl) rfl (by kernel_rfl) rfl rfl ?_
  conv => whnf
  refine AW.loop (fun k : Nat => [(.tmp 1, .v (.ptr 0 0)), (.tmp 3, .v (.int .i64 k)),
    (.blk 0, .box 24 [.int .i64 size, .str firm.data.toList, .lst nil 2 (loose.map encP) .none])]) 1 (fun k => k ≤ loose.length ∧ (loose.take k).all (fun p => decide (p.2.size ≤ 100)) = true) (fun k => loose.length - k) (by decide) 0 ⟨Nat.zero_le _, rfl⟩
    ⟨rfl, rfl, rfl, rfl, rfl, rfl, trivial⟩ ?_
  rintro k ⟨hk, hall⟩
  refine ev_sound tabOk mixed _ _ _ _ ?_
  conv => whnf
  refine ⟨fun h4 => ?_, fun h4 => ?_⟩
  · have h4 := of_decide_eq_true h4
    rw [List.length_map] at h4
    have hlt : k < loose.length := by omega
    have htk : loose.take (k + 1) = loose.take k ++ [loose[k]] := List.take_succ_eq_append_getElem hlt
    obtain ⟨⟨at_, data⟩, hp⟩ : ∃ p, loose[k] = p := ⟨_, rfl⟩
    have hel : (loose.map encP)[k]? = some [.int .i64 at_, .str data.data.toList] := by rw [encP_get hlt, hp]; rfl
    have hno : ¬ data.size ≤ 100 → loose.all (fun p => decide (p.2.size ≤ 100)) = false := fun h => by
      rw [List.all_eq_false]; exact ⟨_, List.getElem_mem hlt, by rw [hp]; simpa using h⟩
    rw [hp] at htk
    have hds : data.size = data.data.toList.length := rfl
    conv => whnf
    refine ⟨_, ⟨by omega, hel⟩, ?_⟩
    conv => whnf
    refine ⟨fun h5 => ?_, fun h5 => ?_⟩
    · have h5 := of_decide_eq_true h5
      conv => whnf
      rw [hno (by omega)]; rfl
    have h5 := of_decide_eq_false h5
    conv => whnf
    refine ⟨k + 1, ⟨by omega, ?_⟩, by show _ - (k + 1) < _ - k; omega, rfl, rfl, ?_, rfl, rfl, rfl, trivial⟩
    · rw [htk, List.all_append, hall]
      simp; omega
    · show C.v (V.int .i64 (IntKind.i64.wrap ((k : Int) + 1))) = _
      rw [w64 (by omega) (by omega)]; rfl
  · have h4 := of_decide_eq_false h4
    rw [List.length_map] at h4
    have hk' : loose.take k = loose := List.take_of_length_le (by omega)
    rw [hk'] at hall
    have hfs : firm.size = firm.data.toList.length := rfl
    rw [hall, Bool.true_and]
    conv => whnf
    refine ⟨fun h5 => ?_, fun h5 => ?_⟩
    · conv => whnf
      refine ⟨fun h6 => ?_, fun h6 => ?_⟩
      · conv => whnf
        have h6 := of_decide_eq_true h6
        rw [h5, decide_eq_true (by omega : firm.size ≤ 2000), Bool.true_and, Bool.true_and]
        congr 1
        rw [List.length_map]
        exact decide_eq_decide.2 (by omega)
      · conv => whnf
        have h6 := of_decide_eq_false h6
        rw [h5, decide_eq_false (by omega : ¬ firm.size ≤ 2000)]; rfl
    · conv => whnf
      rw [h5]; rfl
end Go.Proofs.Ytfehckdcjgmcpaa
