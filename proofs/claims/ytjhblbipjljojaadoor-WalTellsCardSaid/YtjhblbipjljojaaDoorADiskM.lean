/- What the functions of the package disk, and of its document's answer, compute: told without addresses. No claim of its own. -/
import Derived.Test.YtjhblbipjljojaaDoorAmTab
import Derived.Test.YtjhblbipjljojaaDoorDiskPl
namespace Go.Proofs.YtjhblbipjljojaaDoor
open Go.Am

def encP (p : Int × ByteArray) : List V := [.int .i64 p.1, .str p.2.data.toList]
def encD (nil : Bool) (d : Gw.Disk.Disk) : V := .agg [.int .i64 d.size, .str d.firm.data.toList, .lst nil 2 (d.loose.map encP) .none]
def I64 (x : Int) : Prop := -9223372036854775808 ≤ x ∧ x ≤ 9223372036854775807

theorem encP_get {l : List (Int × ByteArray)} {k : Nat} (hk : k < l.length) : (l.map encP)[k]? = some (encP l[k]) := by rw [List.getElem?_map, List.getElem?_eq_getElem hk]; rfl

theorem many_pc (s : List UInt8) (hs : s.length ≤ 1048576) : PC Tryd.prog 88 [.str s] (.int .i64 ((s.length + 15) / 16 : Nat)) := by
  refine PC.of tabOk mixed (fn := Tryd.f88) (by kernel_rfl) rfl (by kernel_rfl) rfl rfl ?_
  conv => whnf
  rw [w64 (x := (s.length : Int) + 16) (by omega) (by omega), w64 (x := (s.length : Int) + 16 - 1) (by omega) (by omega), tdiv_pos (by omega), w64 (by omega) (by omega)]
  congr 1
  omega

theorem check_pc (nil : Bool) (d : Gw.Disk.Disk) (hsz : I64 d.size) (hl : d.loose.length ≤ 1048576) : PC Tryd.prog 28 [encD nil d] (.bool (Gw.Disk.check d)) := by
  obtain ⟨size, firm, loose⟩ := d
  have hsz : I64 size := hsz
  unfold I64 at hsz
  have hl : loose.length ≤ 1048576 := hl
  have hfs : firm.size = firm.data.toList.length := rfl
  show PC Tryd.prog _ [.agg [.int .i64 size, .str firm.data.toList, .lst nil 2 (loose.map encP) .none]] _
  refine PC.of tabOk mixed (fn := Tryd.f28) (by kernel_rfl) rfl (by kernel_rfl) rfl rfl ?_
  conv => whnf
  refine ⟨fun h1 => ?_, fun h1 => ?_⟩
  · conv => whnf
    have h1 := of_decide_eq_true h1
    rw [Gw.Disk.check, decide_eq_false (show ¬ 0 ≤ (Gw.Disk.Disk.mk size firm loose).size from (by omega : ¬ 0 ≤ size))]; rfl
  have h1 := of_decide_eq_false h1
  conv => whnf
  refine ⟨fun h2 => ?_, fun h2 => ?_⟩
  · conv => whnf
    have h2 := of_decide_eq_true h2
    rw [Gw.Disk.check, decide_eq_false (show ¬ (Gw.Disk.Disk.mk size firm loose).size ≤ 65536 from (by omega : ¬ size ≤ 65536))]; simp
  have h2 := of_decide_eq_false h2
  conv => whnf
  rw [w64 (x := size * 16) (by omega) (by omega)]
  refine ⟨fun h3 => ?_, fun h3 => ?_⟩
  · conv => whnf
    have h3 : ¬ ((firm.size : Int) = size * 16) := by rw [hfs]; simpa using h3
    rw [Gw.Disk.check, decide_eq_false (p := ((Gw.Disk.Disk.mk size firm loose).firm.size : Int) = _) h3]; simp
  have h3 : (firm.size : Int) = size * 16 := by rw [hfs]; simpa using h3
  conv => whnf
  have hchk : Gw.Disk.check ⟨size, firm, loose⟩ = loose.all (Gw.Disk.fits size) := by
    simp only [Gw.Disk.check]
    rw [decide_eq_true (by omega : 0 ≤ size), decide_eq_true (by omega : size ≤ 65536), decide_eq_true h3]; rfl
  rw [hchk]
  refine AW.loop (fun k : Nat => [(.tmp 1, .v (.ptr 0 0)), (.tmp 23, .v (.lst nil 2 (loose.map encP) .none)), (.tmp 24, .v (.int .i64 (loose.map encP).length)), (.tmp 25, .v (.int .i64 k)),
    (.blk 0, .box 25 [.int .i64 size, .str firm.data.toList, .lst nil 2 (loose.map encP) .none])]) 1 (fun k => k ≤ loose.length ∧ (loose.take k).all (Gw.Disk.fits size) = true) (fun k => loose.length - k) (by decide) 0 ⟨Nat.zero_le _, rfl⟩
    ⟨rfl, rfl, rfl, rfl, rfl, rfl, rfl, rfl, rfl, rfl, trivial⟩ ?_
  rintro k ⟨hk, hall⟩
  refine ev_sound tabOk mixed _ _ _ _ ?_
  conv => whnf
  refine ⟨fun h4 => ?_, fun h4 => ?_⟩
  · have h4 := of_decide_eq_true h4
    rw [List.length_map] at h4
    have hlt : k < loose.length := by omega
    have htk : loose.take (k + 1) = loose.take k ++ [loose[k]] := List.take_succ_eq_append_getElem hlt
    have hno : Gw.Disk.fits size loose[k] = false → loose.all (Gw.Disk.fits size) = false := fun h => by
      rw [List.all_eq_false]; exact ⟨_, List.getElem_mem hlt, by rw [h]; simp⟩
    obtain ⟨⟨at_, data⟩, hp⟩ : ∃ p, loose[k] = p := ⟨_, rfl⟩
    have hel : (loose.map encP)[k]? = some [.int .i64 at_, .str data.data.toList] := by rw [encP_get hlt, hp]; rfl
    rw [hp] at htk hno
    conv => whnf
    refine ⟨_, ⟨by omega, hel⟩, ?_⟩
    have hds : data.size = data.data.toList.length := rfl
    conv => whnf
    refine ⟨fun h5 => ?_, fun h5 => ?_⟩
    · conv => whnf
      have h5 := of_decide_eq_true h5
      rw [hno (by rw [Gw.Disk.fits, decide_eq_false (by simp only; omega : ¬ 0 ≤ (at_, data).1)]; rfl)]
    have h5 := of_decide_eq_false h5
    conv => whnf
    refine ⟨fun h6 => ?_, fun h6 => ?_⟩
    · conv => whnf
      have h6 := of_decide_eq_true h6
      rw [hno (by rw [Gw.Disk.fits, decide_eq_false (by simp only; omega : ¬ (at_, data).1 < size)]; simp)]
    have h6 := of_decide_eq_false h6
    conv => whnf
    refine ⟨fun h7 => ?_, fun h7 => ?_⟩
    · conv => whnf
      have h7 : ¬ data.size = 16 := by simp at h7; omega
      rw [hno (by rw [Gw.Disk.fits, decide_eq_false h7]; simp)]
    have h7 : data.size = 16 := by simp at h7; omega
    conv => whnf
    refine ⟨k + 1, ⟨by omega, ?_⟩, by show _ - (k + 1) < _ - k; omega, rfl, rfl, rfl, rfl, rfl, rfl, ?_, rfl, rfl, rfl, trivial⟩
    · rw [htk, List.all_append, hall]
      simp [Gw.Disk.fits, h7]; omega
    · show C.v (V.int .i64 (IntKind.i64.wrap ((k : Int) + 1))) = _
      rw [w64 (by omega) (by omega)]; rfl
  · have h4 := of_decide_eq_false h4
    rw [List.length_map] at h4
    conv => whnf
    have : loose.take k = loose := List.take_of_length_le (by omega)
    rw [this] at hall
    rw [hall]

theorem rcheck_pc (nil : Bool) (d : Gw.Disk.Disk) (hsz : I64 d.size) (hl : d.loose.length ≤ 1048576) (hf : d.size ≤ 65536) : PC Tryd.prog 38 [encD nil d] (.bool (Gw.Disk.check d)) := by
  obtain ⟨size, firm, loose⟩ := d
  have hsz : I64 size := hsz
  unfold I64 at hsz
  have hl : loose.length ≤ 1048576 := hl
  have hfs : firm.size = firm.data.toList.length := rfl
  show PC Tryd.prog _ [.agg [.int .i64 size, .str firm.data.toList, .lst nil 2 (loose.map encP) .none]] _
  refine PC.of tabOk mixed (fn := Tryd.f38) (by kernel_rfl) rfl (by kernel_rfl) rfl rfl ?_
  conv => whnf
  refine AW.loop (fun k : Nat => [(.tmp 1, .v (.ptr 0 0)), (.tmp 3, .v (.int .i64 k)),
    (.blk 0, .box 25 [.int .i64 size, .str firm.data.toList, .lst nil 2 (loose.map encP) .none])]) 1 (fun k => k ≤ loose.length ∧ (loose.take k).all (Gw.Disk.fits size) = true) (fun k => loose.length - k) (by decide) 0 ⟨Nat.zero_le _, rfl⟩
    ⟨rfl, rfl, rfl, rfl, rfl, rfl, trivial⟩ ?_
  rintro k ⟨hk, hall⟩
  refine ev_sound tabOk mixed _ _ _ _ ?_
  conv => whnf
  refine ⟨fun h4 => ?_, fun h4 => ?_⟩
  · have h4 := of_decide_eq_true h4
    rw [List.length_map] at h4
    have hlt : k < loose.length := by omega
    have htk : loose.take (k + 1) = loose.take k ++ [loose[k]] := List.take_succ_eq_append_getElem hlt
    have hno : Gw.Disk.fits size loose[k] = false → Gw.Disk.check ⟨size, firm, loose⟩ = false := fun h => by
      rw [Gw.Disk.check, List.all_eq_false.2 ⟨_, List.getElem_mem hlt, by rw [h]; simp⟩]; simp
    obtain ⟨⟨at_, data⟩, hp⟩ : ∃ p, loose[k] = p := ⟨_, rfl⟩
    have hel : (loose.map encP)[k]? = some [.int .i64 at_, .str data.data.toList] := by rw [encP_get hlt, hp]; rfl
    rw [hp] at htk hno
    conv => whnf
    refine ⟨_, ⟨by omega, hel⟩, ?_⟩
    have hds : data.size = data.data.toList.length := rfl
    conv => whnf
    refine ⟨fun h5 => ?_, fun h5 => ?_⟩
    · have h5 := of_decide_eq_true h5
      conv => whnf
      refine ⟨by kernel_rfl, ?_⟩
      conv => whnf
      rw [hno (by rw [Gw.Disk.fits, decide_eq_false (by simp only; omega : ¬ 0 ≤ (at_, data).1)]; rfl)]
    have h5 := of_decide_eq_false h5
    conv => whnf
    refine ⟨_, ⟨by omega, hel⟩, ?_⟩
    conv => whnf
    refine ⟨fun h6 => ?_, fun h6 => ?_⟩
    · have h6 := of_decide_eq_true h6
      conv => whnf
      refine ⟨by kernel_rfl, ?_⟩
      conv => whnf
      rw [hno (by rw [Gw.Disk.fits, decide_eq_false (by simp only; omega : ¬ (at_, data).1 < size)]; simp)]
    have h6 := of_decide_eq_false h6
    conv => whnf
    refine ⟨_, ⟨by omega, hel⟩, ?_⟩
    conv => whnf
    refine ⟨by kernel_rfl, ?_⟩
    conv => whnf
    refine ⟨fun h7 => ?_, fun h7 => ?_⟩
    · have h7 : ¬ data.size = 16 := by simp at h7; omega
      conv => whnf
      rw [hno (by rw [Gw.Disk.fits, decide_eq_false h7]; simp)]
    have h7 : data.size = 16 := by simp at h7; omega
    conv => whnf
    refine ⟨k + 1, ⟨by omega, ?_⟩, by show _ - (k + 1) < _ - k; omega, rfl, rfl, ?_, rfl, rfl, rfl, trivial⟩
    · rw [htk, List.all_append, hall]
      simp [Gw.Disk.fits, h7]; omega
    · show C.v (V.int .i64 (IntKind.i64.wrap ((k : Int) + 1))) = _
      rw [w64 (by omega) (by omega)]; rfl
  · have h4 := of_decide_eq_false h4
    rw [List.length_map] at h4
    have hk' : loose.take k = loose := List.take_of_length_le (by omega)
    rw [hk'] at hall
    have hchk : Gw.Disk.check ⟨size, firm, loose⟩ = (decide (0 ≤ size) && (decide (size ≤ 65536) && decide ((firm.size : Int) = size * 16))) := by rw [Gw.Disk.check, hall, Bool.and_true]
    rw [hchk]
    conv => whnf
    refine ⟨fun h5 => ?_, fun h5 => ?_⟩
    · conv => whnf
      refine ⟨fun h6 => ?_, fun h6 => ?_⟩
      · have h5 := of_decide_eq_true h5
        have h6 := of_decide_eq_true h6
        conv => whnf
        rw [w64 (x := 16 * size) (by omega) (by omega), decide_eq_true h5, decide_eq_true h6, Bool.true_and, Bool.true_and]
        congr 1
        rw [hfs]
        exact decide_eq_decide.2 (by omega)
      · conv => whnf
        rw [h5, h6]; rfl
    · conv => whnf
      rw [h5]; rfl
end Go.Proofs.YtjhblbipjljojaaDoor


namespace Go.Proofs.YtjhblbipjljojaaDoor
open Go.Am

theorem clone_pc (nil : Bool) (els : List (List V)) (hn : nil = true → els = []) (hl : els.length ≤ 4294967296) : PC Tryd.prog 33 [.lst nil 2 els .none] (.lst nil 2 els .none) := by
  refine PC.ofS tabOk mixed (fn := Tryd.f33) (by kernel_rfl) rfl (by kernel_rfl) rfl rfl ?_
  conv => whnf
  refine ⟨fun h => ?_, fun h => ?_⟩
  · conv => whnf
    rw [h, hn h]
    exact SubV.nil _ _ _
  · conv => whnf
    refine ⟨fits_small (by simpa using hl) (by decide), ?_⟩
    conv => whnf
    rw [h]
    exact SubV.refl _

theorem same_pc (nil : Bool) (d : Gw.Disk.Disk) (hn : nil = true → d.loose = []) (hl : d.loose.length ≤ 4294967296) : PC Tryd.prog 57 [encD nil d] (encD nil d) := by
  obtain ⟨size, firm, loose⟩ := d
  have hn : nil = true → loose = [] := hn
  show PC Tryd.prog _ [.agg [.int .i64 size, .str firm.data.toList, .lst nil 2 (loose.map encP) .none]] _
  refine PC.of tabOk mixed (fn := Tryd.f57) (by kernel_rfl) rfl (by kernel_rfl) rfl rfl ?_
  conv => whnf
  refine AC.of_pc (clone_pc nil _ (fun h => by rw [hn h]; rfl) (by rw [List.length_map]; exact hl)) rfl ?_
  conv => whnf
  rfl

theorem zeros_pc (n : Int) (h : n ≤ 1048576) : PC Tryd.prog 72 [.int .i64 n] (.str (List.replicate n.toNat 0)) := by
  refine PC.of tabOk mixed (fn := Tryd.f72) (by kernel_rfl) rfl (by kernel_rfl) rfl rfl ?_
  conv => whnf
  refine ⟨⟨by simp only; omega, rfl, fits_small (by simp only; omega) (by omega)⟩, ?_⟩
  conv => whnf
  refine ⟨List.replicate (max n 0).toNat 0, ?_, ?_⟩
  · show 0 + (max n 0).toNat ≤ (repl (max n 0).toNat [V.int .u8 0]).length ∧ ((repl (max n 0).toNat [V.int .u8 0]).drop 0).take (max n 0).toNat = _
    rw [repl_bytes]
    exact bytesV_all' (by simp)
  conv => whnf
  rw [show (max n 0).toNat = n.toNat by omega]

theorem encD_new (size : Int) : encD true (Gw.Disk.new size) = .agg [.int .i64 (min (max size 0) 65536), .str (List.replicate ((min (max size 0) 65536).toNat * 16) 0), .lst true 2 [] .none] := by
  simp [encD, Gw.Disk.new]

theorem rnew_pc (size : Int) : PC Tryd.prog 48 [.int .i64 size] (encD true (Gw.Disk.new size)) := by
  rw [encD_new]
  refine PC.ofS tabOk mixed (fn := Tryd.f48) (by kernel_rfl) rfl (by kernel_rfl) rfl rfl ?_
  conv => whnf
  have hw : IntKind.i64.wrap (16 * min (max size 0) 65536) = 16 * min (max size 0) 65536 := w64 (by omega) (by omega)
  refine AC.of_pc (zeros_pc (IntKind.i64.wrap (16 * min (max size 0) 65536)) (by rw [hw]; omega)) rfl ?_
  conv => whnf
  rw [hw]
  refine SubV.agg (.cons (.of_eq ?_) (.cons (.of_eq ?_) (.cons (.nil _ _ _) .nil)))
  · rfl
  · rw [show (16 * min (max size 0) 65536).toNat = (min (max size 0) 65536).toNat * 16 by omega]

theorem new_pc (size : Int) : PC Tryd.prog 27 [.int .i64 size] (encD true (Gw.Disk.new size)) := by
  rw [encD_new]
  refine PC.ofS tabOk mixed (fn := Tryd.f27) (by kernel_rfl) rfl (by kernel_rfl) rfl rfl ?_
  conv => whnf
  have hw : IntKind.i64.wrap (min (max size 0) 65536 * 16) = min (max size 0) 65536 * 16 := w64 (by omega) (by omega)
  refine ⟨⟨by show 0 ≤ IntKind.i64.wrap (min (max size 0) 65536 * 16); omega, rfl, fits_small (by show (IntKind.i64.wrap (min (max size 0) 65536 * 16)).toNat ≤ _; omega) (by decide)⟩, ?_⟩
  conv => whnf
  refine ⟨List.replicate (min (max size 0) 65536 * 16).toNat 0, ?_, ?_⟩
  · show 0 + (IntKind.i64.wrap (min (max size 0) 65536 * 16)).toNat ≤ (repl (IntKind.i64.wrap (min (max size 0) 65536 * 16)).toNat [V.int .u8 0]).length ∧ ((repl (IntKind.i64.wrap (min (max size 0) 65536 * 16)).toNat [V.int .u8 0]).drop 0).take (IntKind.i64.wrap (min (max size 0) 65536 * 16)).toNat = _
    rw [repl_bytes, hw]
    exact bytesV_all' (by simp)
  conv => whnf
  refine SubV.agg (.cons (.of_eq ?_) (.cons (.of_eq ?_) (.cons (.nil _ _ _) .nil)))
  · rfl
  · rw [show (min (max size 0) 65536 * 16).toNat = (min (max size 0) 65536).toNat * 16 by omega]

theorem sector_pc (nil : Bool) (d : Gw.Disk.Disk) (i : Nat) (hc : Gw.Disk.check d = true) (hi : (i : Int) < d.size) (hl : d.loose.length ≤ 1048576) : PC Tryd.prog 71 [encD nil d, .int .i64 i] (.str (Gw.Disk.sec d i)) := by
  have hs := Gw.Disk.check_spec hc
  obtain ⟨size, firm, loose⟩ := d
  simp only at hs hi hl
  obtain ⟨z1, z2, z3, z4⟩ := hs
  show PC Tryd.prog _ [.agg [.int .i64 size, .str firm.data.toList, .lst nil 2 (loose.map encP) .none], .int .i64 i] (.str (loose.foldl (Gw.Disk.put1 (i : Int)) ((firm.data.toList.drop (i * 16)).take 16)))
  refine PC.of tabOk mixed (fn := Tryd.f71) (by kernel_rfl) rfl (by kernel_rfl) rfl rfl ?_
  conv => whnf
  refine AW.loop (fun k : Nat => [(.tmp 1, .v (.int .i64 i)), (.tmp 2, .v (.ptr 0 0)), (.tmp 5, .v (.int .i64 ((k : Int) - 1))),
    (.blk 0, .box 25 [.int .i64 size, .str firm.data.toList, .lst nil 2 (loose.map encP) .none])]) 1 (fun k => k ≤ loose.length ∧ ∀ f, (loose.drop k).foldl (Gw.Disk.put1 (i : Int)) f = f) (fun k => k) (by decide) loose.length ⟨Nat.le_refl _, fun f => by rw [List.drop_length]; rfl⟩
    ⟨rfl, rfl, rfl, rfl, ?_, rfl, rfl, rfl, trivial⟩ ?_
  · show C.v (V.int .i64 (IntKind.i64.wrap (((loose.map encP).length : Int) - 1))) = _
    rw [List.length_map, w64 (by omega) (by omega)]
  rintro k ⟨hk, hall⟩
  refine ev_sound tabOk mixed _ _ _ _ ?_
  conv => whnf
  refine ⟨fun h => ?_, fun h => ?_⟩
  · have h := of_decide_eq_true h
    obtain ⟨k, rfl⟩ : ∃ j, k = j + 1 := ⟨k - 1, by omega⟩
    have hlt : k < loose.length := by omega
    have htk : loose.drop k = loose[k] :: loose.drop (k + 1) := List.drop_eq_getElem_cons hlt
    obtain ⟨⟨at_, data⟩, hp⟩ : ∃ p, loose[k] = p := ⟨_, rfl⟩
    have hel : (loose.map encP)[(((k + 1 : Nat) : Int) - 1).toNat]? = some [.int .i64 at_, .str data.data.toList] := by rw [show (((k + 1 : Nat) : Int) - 1).toNat = k by omega, encP_get hlt, hp]; rfl
    rw [hp] at htk
    conv => whnf
    refine ⟨_, ⟨by omega, hel⟩, ?_⟩
    conv => whnf
    refine ⟨fun h5 => ?_, fun h5 => ?_⟩
    · have h5 : at_ = (i : Int) := by simpa using h5
      conv => whnf
      refine ⟨_, ⟨by omega, hel⟩, ?_⟩
      conv => whnf
      rw [← List.take_append_drop k loose, List.foldl_append, htk, List.foldl_cons, hall, Gw.Disk.put1, if_pos h5]
    · have h5 : at_ ≠ (i : Int) := by simpa using h5
      conv => whnf
      refine ⟨k, ⟨by omega, fun f => ?_⟩, by show k < k + 1; omega, rfl, rfl, rfl, rfl, ?_, rfl, rfl, rfl, trivial⟩
      · rw [htk, List.foldl_cons, hall, Gw.Disk.put1, if_neg h5]
      · show C.v (V.int .i64 (IntKind.i64.wrap (((k + 1 : Nat) : Int) - 1 - 1))) = _
        rw [w64 (by omega) (by omega)]
        congr 2
        omega
  · have h := of_decide_eq_false h
    obtain rfl : k = 0 := by omega
    conv => whnf
    have hfl : firm.data.toList.length = firm.size := rfl
    rw [w64 (x := 16 * (i : Int)) (by omega) (by omega), w64 (x := 16 * (i : Int) + 16) (by omega) (by omega)]
    refine ⟨by omega, ?_⟩
    conv => whnf
    have := hall ((firm.data.toList.drop (i * 16)).take 16)
    rw [List.drop_zero] at this
    rw [this, show (16 * (i : Int)).toNat = i * 16 by omega, show (16 * (i : Int) + 16).toNat = i * 16 + 16 by omega, List.drop_take, show i * 16 + 16 - i * 16 = 16 by omega]

theorem few_pc (nil : Bool) (d : Gw.Disk.Disk) (hl : d.loose.length ≤ 9223372036854775807) : PC Tryd.prog 11 [encD nil d] (.bool (d.loose.all (fun p => decide (p.2.size ≤ 100)) && (decide (d.size ≤ 100) && (decide (d.firm.size ≤ 2000) && decide (d.loose.length ≤ 100))))) := by
  obtain ⟨size, firm, loose⟩ := d
  simp only at hl
  show PC Tryd.prog _ [.agg [.int .i64 size, .str firm.data.toList, .lst nil 2 (loose.map encP) .none]] (.bool (loose.all (fun p => decide (p.2.size ≤ 100)) && (decide (size ≤ 100) && (decide (firm.size ≤ 2000) && decide (loose.length ≤ 100)))))
  refine PC.of tabOk mixed (fn := Tryd.f11) (by kernel_rfl) rfl (by kernel_rfl) rfl rfl ?_
  conv => whnf
  refine AW.loop (fun k : Nat => [(.tmp 1, .v (.ptr 0 0)), (.tmp 3, .v (.int .i64 k)),
    (.blk 0, .box 25 [.int .i64 size, .str firm.data.toList, .lst nil 2 (loose.map encP) .none])]) 1 (fun k => k ≤ loose.length ∧ (loose.take k).all (fun p => decide (p.2.size ≤ 100)) = true) (fun k => loose.length - k) (by decide) 0 ⟨Nat.zero_le _, rfl⟩
    ⟨rfl, rfl, rfl, rfl, rfl, rfl, trivial⟩ ?_
  rintro k ⟨hk, hall⟩
  refine ev_sound tabOk mixed _ _ _ _ ?_
  conv => whnf
  refine ⟨fun h4 => ?_, fun h4 => ?_⟩
  · have h4 := of_decide_eq_true h4
    rw [List.length_map] at h4
    have hlt : k < loose.length := by omega
    have htk : loose.take (k + 1) = loose.take k ++ [loose[k]] := List.take_succ_eq_append_getElem hlt
    obtain ⟨⟨at_, data⟩, hp⟩ : ∃ p, loose[k] = p := ⟨_, rfl⟩
    have hel : (loose.map encP)[k]? = some [.int .i64 at_, .str data.data.toList] := by rw [encP_get hlt, hp]; rfl
    have hno : ¬ data.size ≤ 100 → loose.all (fun p => decide (p.2.size ≤ 100)) = false := fun h => by
      rw [List.all_eq_false]; exact ⟨_, List.getElem_mem hlt, by rw [hp]; simpa using h⟩
    rw [hp] at htk
    have hds : data.size = data.data.toList.length := rfl
    conv => whnf
    refine ⟨_, ⟨by omega, hel⟩, ?_⟩
    conv => whnf
    refine ⟨fun h5 => ?_, fun h5 => ?_⟩
    · have h5 := of_decide_eq_true h5
      conv => whnf
      rw [hno (by omega)]; rfl
    have h5 := of_decide_eq_false h5
    conv => whnf
    refine ⟨k + 1, ⟨by omega, ?_⟩, by show _ - (k + 1) < _ - k; omega, rfl, rfl, ?_, rfl, rfl, rfl, trivial⟩
    · rw [htk, List.all_append, hall]
      simp; omega
    · show C.v (V.int .i64 (IntKind.i64.wrap ((k : Int) + 1))) = _
      rw [w64 (by omega) (by omega)]; rfl
  · have h4 := of_decide_eq_false h4
    rw [List.length_map] at h4
    have hk' : loose.take k = loose := List.take_of_length_le (by omega)
    rw [hk'] at hall
    have hfs : firm.size = firm.data.toList.length := rfl
    rw [hall, Bool.true_and]
    conv => whnf
    refine ⟨fun h5 => ?_, fun h5 => ?_⟩
    · conv => whnf
      refine ⟨fun h6 => ?_, fun h6 => ?_⟩
      · conv => whnf
        have h6 := of_decide_eq_true h6
        rw [h5, decide_eq_true (by omega : firm.size ≤ 2000), Bool.true_and, Bool.true_and]
        congr 1
        rw [List.length_map]
        exact decide_eq_decide.2 (by omega)
      · conv => whnf
        have h6 := of_decide_eq_false h6
        rw [h5, decide_eq_false (by omega : ¬ firm.size ≤ 2000)]; rfl
    · conv => whnf
      rw [h5]; rfl
end Go.Proofs.YtjhblbipjljojaaDoor


namespace Go.Proofs.YtjhblbipjljojaaDoor
open Go.Am

/-- Bytes are copied into bytes. -/
theorem bytesV_over {l t : List UInt8} {i len off n : Nat} (hl : len = l.length - i) (ho : off = i) (hn : n = t.length) (h : i + t.length ≤ l.length) :
    (bytesV l).take off ++ (bytesV t).take (min n len * 1) ++ (bytesV l).drop (off + min n len * 1) = bytesV (Gw.Disk.over l i t) := by
  subst hl ho hn
  have e : min t.length (l.length - off) * 1 = t.length := by omega
  rw [e, List.take_of_length_le (l := bytesV t) (by rw [bytesV_len]; exact Nat.le_refl _)]
  unfold Gw.Disk.over
  rw [bytesV_append, bytesV_append, bytesV_take, bytesV_drop]

theorem seen_pc (nil : Bool) (d : Gw.Disk.Disk) (at_ n : Nat) (hc : Gw.Disk.check d = true) (h : ((at_ + n : Nat) : Int) ≤ d.size) (hl : d.loose.length ≤ 1048576) : PC Tryd.prog 63 [encD nil d, .int .i64 at_, .int .i64 n] (.str (Gw.Disk.seen d at_ n)) := by
  have hs := Gw.Disk.check_spec hc
  obtain ⟨size, firm, loose⟩ := d
  simp only at hs h hl
  obtain ⟨z1, z2, z3, z4⟩ := hs
  have hfl : firm.data.toList.length = firm.size := rfl
  show PC Tryd.prog _ [.agg [.int .i64 size, .str firm.data.toList, .lst nil 2 (loose.map encP) .none], .int .i64 at_, .int .i64 n] (.str (loose.foldl (Gw.Disk.lay at_ n) ((firm.data.toList.drop (at_ * 16)).take (n * 16))))
  refine PC.of tabOk mixed (fn := Tryd.f63) (by kernel_rfl) rfl (by kernel_rfl) rfl rfl ?_
  conv => whnf
  have w1 : IntKind.i64.wrap ((at_ : Int) * 16) = (at_ : Int) * 16 := w64 (by omega) (by omega)
  have w2 : IntKind.i64.wrap ((at_ : Int) + n) = (at_ : Int) + n := w64 (by omega) (by omega)
  have w3 : IntKind.i64.wrap (((at_ : Int) + n) * 16) = ((at_ : Int) + n) * 16 := w64 (by omega) (by omega)
  rw [w2, w3, w1]
  refine ⟨by omega, ?_⟩
  have hb : (firm.data.toList.take (((at_ : Int) + n) * 16).toNat).drop ((at_ : Int) * 16).toNat = (firm.data.toList.drop (at_ * 16)).take (n * 16) := by
    rw [show (((at_ : Int) + n) * 16).toNat = at_ * 16 + n * 16 by omega, show ((at_ : Int) * 16).toNat = at_ * 16 by omega, List.drop_take]
    congr 1
    omega
  have hbl : ((firm.data.toList.drop (at_ * 16)).take (n * 16)).length = n * 16 := by rw [List.length_take, List.length_drop]; omega
  rw [hb]
  generalize (firm.data.toList.drop (at_ * 16)).take (n * 16) = base at hbl ⊢
  conv => whnf
  refine AW.loop (fun k : Nat => [(.tmp 1, .v (.int .i64 at_)), (.tmp 2, .v (.int .i64 n)), (.tmp 7, .v (.own 11 0 1 (n * 16) true)), (.tmp 21, .v (.lst nil 2 (loose.map encP) .none)), (.tmp 22, .v (.int .i64 loose.length)), (.tmp 23, .v (.int .i64 k)),
    (.blk 11, .mem 5 (bytesV ((loose.take k).foldl (Gw.Disk.lay at_ n) base)))]) 12 (fun k => k ≤ loose.length) (fun k => loose.length - k) (by decide) 0 (Nat.zero_le _)
    ⟨rfl, rfl, rfl, rfl, ?_, rfl, rfl, rfl, ?_, rfl, rfl, rfl, rfl, rfl, trivial⟩ ?_
  · show C.v (V.own 11 0 1 base.length true) = _
    rw [hbl]
  · show C.v (V.int .i64 ((loose.map encP).length : Nat)) = _
    rw [List.length_map]
  rintro k hk
  have hlk : ((loose.take k).foldl (Gw.Disk.lay at_ n) base).length = n * 16 := Gw.Disk.foldl_lay_length at_ n _ base hbl (fun p hp => (z4 p (List.mem_of_mem_take hp)).2.2)
  refine ev_sound tabOk mixed _ _ _ _ ?_
  conv => whnf
  refine ⟨fun h4 => ?_, fun h4 => ?_⟩
  · have h4 := of_decide_eq_true h4
    have hlt : k < loose.length := by omega
    have htk : loose.take (k + 1) = loose.take k ++ [loose[k]] := List.take_succ_eq_append_getElem hlt
    have hz := z4 _ (List.getElem_mem hlt)
    obtain ⟨⟨pa, data⟩, hp⟩ : ∃ p, loose[k] = p := ⟨_, rfl⟩
    have hel : (loose.map encP)[k]? = some [.int .i64 pa, .str data.data.toList] := by rw [encP_get hlt, hp]; rfl
    rw [hp] at htk hz
    simp only at hz
    have hds : data.size = data.data.toList.length := rfl
    have hstep : (loose.take (k + 1)).foldl (Gw.Disk.lay at_ n) base = Gw.Disk.lay at_ n ((loose.take k).foldl (Gw.Disk.lay at_ n) base) (pa, data) := by rw [htk, List.foldl_append]; rfl
    generalize (loose.take k).foldl (Gw.Disk.lay at_ n) base = cur at hlk hstep ⊢
    have hcnt : ∀ c : C, c = C.v (V.int .i64 (IntKind.i64.wrap ((k : Int) + 1))) → c = C.v (V.int .i64 ((k + 1 : Nat) : Int)) := fun c e => by rw [e, w64 (by omega) (by omega)]; rfl
    conv => whnf
    refine ⟨_, ⟨by omega, hel⟩, ?_⟩
    conv => whnf
    refine ⟨fun h5 => ?_, fun h5 => ?_⟩
    · have h5 := of_decide_eq_true h5
      conv => whnf
      rw [w2]
      refine ⟨fun h6 => ?_, fun h6 => ?_⟩
      · have h6 := of_decide_eq_true h6
        conv => whnf
        have w4 : IntKind.i64.wrap (pa - at_) = pa - at_ := w64 (by omega) (by omega)
        have w5 : IntKind.i64.wrap ((pa - at_) * 16) = (pa - at_) * 16 := w64 (by omega) (by omega)
        rw [w4, w5]
        refine ⟨by omega, ?_⟩
        conv => whnf
        refine ⟨by rw [bytesV_len]; omega, ?_⟩
        conv => whnf
        refine ⟨by kernel_rfl, ?_⟩
        conv => whnf
        refine ⟨k + 1, by show k + 1 ≤ loose.length; omega, by show _ - (k + 1) < _ - k; omega, rfl, rfl, rfl, rfl, rfl, rfl, rfl, rfl, rfl, rfl, hcnt _ rfl, rfl, ?_, rfl, trivial⟩
        show C.mem _ _ = C.mem _ _
        congr 1
        rw [hstep, Gw.Disk.lay, if_pos ⟨h5, by omega⟩]
        refine bytesV_over (i := (pa.toNat - at_) * 16) ?_ ?_ ?_ ?_
        · omega
        · omega
        · rfl
        · omega
      · have h6 := of_decide_eq_false h6
        conv => whnf
        refine ⟨k + 1, by show k + 1 ≤ loose.length; omega, by show _ - (k + 1) < _ - k; omega, rfl, rfl, rfl, rfl, rfl, rfl, rfl, rfl, rfl, rfl, hcnt _ rfl, rfl, ?_, rfl, trivial⟩
        rw [hstep, Gw.Disk.lay, if_neg (by simp only; omega)]
        rfl
    · have h5 := of_decide_eq_false h5
      conv => whnf
      refine ⟨k + 1, by show k + 1 ≤ loose.length; omega, by show _ - (k + 1) < _ - k; omega, rfl, rfl, rfl, rfl, rfl, rfl, rfl, rfl, rfl, rfl, hcnt _ rfl, rfl, ?_, rfl, trivial⟩
      rw [hstep, Gw.Disk.lay, if_neg (by simp only; omega)]
      rfl
  · have h4 := of_decide_eq_false h4
    have hk' : loose.take k = loose := List.take_of_length_le (by omega)
    rw [hk'] at hlk ⊢
    conv => whnf
    exact ⟨_, bytesV_all' hlk.symm, rfl⟩

theorem read_pc (nil : Bool) (d : Gw.Disk.Disk) (at_ n : Int) (hsz : I64 d.size) (ha : I64 at_) (hn : I64 n) (hl : d.loose.length ≤ 1048576) : PC Tryd.prog 31 [encD nil d, .int .i64 at_, .int .i64 n] (.tup [.str (Gw.Disk.read d at_ n), .int .i64 (Gw.Disk.readErr d at_ n)]) := by
  have hck := check_pc nil d hsz hl
  have hse := fun (a m : Nat) hc h => seen_pc nil d a m hc h hl
  have hs := fun hc => Gw.Disk.check_spec (d := d) hc
  have hmr : Gw.Disk.mayRead d at_ n = (Gw.Disk.check d && (decide (0 ≤ at_) && (decide (0 ≤ n) && decide (n ≤ d.size - at_)))) := rfl
  unfold I64 at ha hn
  unfold Gw.Disk.read Gw.Disk.readErr
  generalize Gw.Disk.check d = q at hck hse hs hmr
  obtain ⟨size, firm, loose⟩ := d
  refine PC.of tabOk mixed (fn := Tryd.f31) (by kernel_rfl) rfl (by kernel_rfl) rfl rfl ?_
  conv => whnf
  refine AC.of_pc hck rfl ?_
  conv => whnf
  refine ⟨fun h1 => ?_, fun h1 => ?_⟩
  · have h1 : q = false := by simpa using h1
    conv => whnf
    rw [hmr, h1]; rfl
  have h1 : q = true := by simpa using h1
  obtain ⟨z1, z2, z3, z4⟩ := hs h1
  simp only at z1 z2 z3 z4 hmr
  conv => whnf
  refine ⟨fun h2 => ?_, fun h2 => ?_⟩
  · have h2 := of_decide_eq_true h2
    conv => whnf
    rw [hmr, h1, decide_eq_false (by omega : ¬ 0 ≤ at_)]; rfl
  have h2 := of_decide_eq_false h2
  conv => whnf
  refine ⟨fun h3 => ?_, fun h3 => ?_⟩
  · have h3 := of_decide_eq_true h3
    conv => whnf
    rw [hmr, h1, decide_eq_true (by omega : 0 ≤ at_), decide_eq_false (by omega : ¬ 0 ≤ n)]; rfl
  have h3 := of_decide_eq_false h3
  have w1 : IntKind.i64.wrap (size - at_) = size - at_ := w64 (by omega) (by omega)
  conv => whnf
  rw [w1]
  refine ⟨fun h4 => ?_, fun h4 => ?_⟩
  · have h4 := of_decide_eq_true h4
    conv => whnf
    rw [hmr, h1, decide_eq_true (by omega : 0 ≤ at_), decide_eq_true (by omega : 0 ≤ n), decide_eq_false (by omega : ¬ n ≤ size - at_)]; rfl
  have h4 := of_decide_eq_false h4
  obtain ⟨a, rfl⟩ := Int.eq_ofNat_of_zero_le (by omega : 0 ≤ at_)
  obtain ⟨m, rfl⟩ := Int.eq_ofNat_of_zero_le (by omega : 0 ≤ n)
  conv => whnf
  refine AC.of_pc (hse a m h1 (by simp only; omega)) rfl ?_
  conv => whnf
  have hm : Gw.Disk.mayRead ⟨size, firm, loose⟩ (a : Int) (m : Int) = true := by rw [hmr, h1, decide_eq_true (by omega : (0 : Int) ≤ a), decide_eq_true (by omega : (0 : Int) ≤ m), decide_eq_true (by omega : (m : Int) ≤ size - a)]; rfl
  rw [if_pos hm, if_pos hm, Int.toNat_natCast, Int.toNat_natCast]
  rfl

theorem flush_pc (nil : Bool) (d : Gw.Disk.Disk) (hn : nil = true → d.loose = []) (hsz : I64 d.size) (hl : d.loose.length ≤ 1048576) : PC Tryd.prog 26 [encD nil d] (encD (if Gw.Disk.check d = true then true else nil) (Gw.Disk.flush d)) := by
  have hck := check_pc nil d hsz hl
  have hsa := same_pc nil d hn (by omega)
  have hse := fun (a m : Nat) hc h => seen_pc nil d a m hc h hl
  have hs := fun hc => Gw.Disk.check_spec (d := d) hc
  unfold Gw.Disk.flush
  generalize Gw.Disk.check d = q at hck hse hs ⊢
  obtain ⟨size, firm, loose⟩ := d
  refine PC.ofS tabOk mixed (fn := Tryd.f26) (by kernel_rfl) rfl (by kernel_rfl) rfl rfl ?_
  conv => whnf
  refine AC.of_pc hck rfl ?_
  conv => whnf
  refine ⟨fun h1 => ?_, fun h1 => ?_⟩
  · have h1 : q = false := by simpa using h1
    conv => whnf
    refine AC.of_pc hsa rfl ?_
    conv => whnf
    rw [h1]
    exact SubV.refl _
  have h1 : q = true := by simpa using h1
  obtain ⟨z1, z2, z3, z4⟩ := hs h1
  simp only at z1 z2 z3 z4
  obtain ⟨m, rfl⟩ := Int.eq_ofNat_of_zero_le z1
  conv => whnf
  refine ⟨_, rfl, hse 0 m h1 (by simp only; omega), ?_⟩
  conv => whnf
  refine ⟨by kernel_rfl, ?_⟩
  conv => whnf
  rw [h1]
  exact SubV.agg (.cons (.of_eq rfl) (.cons (.of_eq rfl) (.cons (.nil _ _ _) .nil)))
end Go.Proofs.YtjhblbipjljojaaDoor


namespace Go.Proofs.YtjhblbipjljojaaDoor
open Go.Am

theorem oneAll_dbytes : ∀ (s : List UInt8), oneAll (bytesV s) = true
  | [] => rfl
  | _ :: s => oneAll_dbytes s
theorem bytesV_flat (n : Nat) (f : Nat → List UInt8) : ((List.range n).map fun i => bytesV (f i)).flatten = bytesV (Gw.Disk.flat n f) := by
  unfold Gw.Disk.flat bytesV
  rw [List.map_flatMap]
  rfl
theorem repl_zero16 (n : Nat) : repl n (repl 16 [V.int .u8 0]) = bytesV (List.replicate (n * 16) 0) := by
  rw [repl_bytes]
  unfold repl bytesV
  induction n with
  | zero => rfl
  | succ n ih =>
    rw [List.replicate_succ, List.flatten_cons, ih, show (n + 1) * 16 = 16 + n * 16 by omega, ← List.replicate_append_replicate, List.map_append]

def encC (s : ByteArray) : List (List V) := (List.range (Gw.Disk.manyOf s)).map fun i => bytesV (((Gw.Disk.pad s).drop (i * 16)).take 16)

theorem cut_pc (s : ByteArray) (hs : s.size ≤ 1048576) : PC Tryd.prog 89 [.str s.data.toList] (.lst false 16 (encC s) .none) := by
  have hsl : s.data.toList.length = s.size := rfl
  have hm : (s.data.toList.length + 15) / 16 = Gw.Disk.manyOf s := rfl
  have hmy := many_pc s.data.toList (by omega)
  rw [hm] at hmy
  have hmb : Gw.Disk.manyOf s ≤ 65537 := by unfold Gw.Disk.manyOf; omega
  refine PC.of tabOk mixed (fn := Tryd.f89) (by kernel_rfl) rfl (by kernel_rfl) rfl rfl ?_
  conv => whnf
  refine AC.of_pc hmy rfl ?_
  conv => whnf
  refine ⟨⟨by omega, rfl, fits_small (by rw [Int.toNat_natCast]; omega) (by decide)⟩, ?_⟩
  conv => whnf
  refine AW.loop (fun k : Nat => [(.tmp 0, .v (.str s.data.toList)), (.tmp 3, .v (.own 2 0 16 (Gw.Disk.manyOf s) true)), (.tmp 9, .v (.int .i64 (Gw.Disk.manyOf s))), (.tmp 10, .v (.int .i64 k)),
    (.blk 2, .mem 118 (bytesV (Gw.Disk.padTo s k)))]) 3 (fun k => k ≤ Gw.Disk.manyOf s) (fun k => Gw.Disk.manyOf s - k) (by decide) 0 (Nat.zero_le _)
    ⟨rfl, rfl, ?_, rfl, ?_, rfl, rfl, rfl, ?_, rfl, trivial⟩ ?_
  · rfl
  · rfl
  · show C.mem _ (repl (Gw.Disk.manyOf s : Int).toNat (repl 16 [V.int .u8 0])) = _
    rw [repl_zero16, Gw.Disk.padTo_zero, Int.toNat_natCast]
  rintro k hk
  refine ev_sound tabOk mixed _ _ _ _ ?_
  conv => whnf
  refine ⟨fun h4 => ?_, fun h4 => ?_⟩
  · have h4 := of_decide_eq_true h4
    have hlt : k < Gw.Disk.manyOf s := by omega
    have hpl := Gw.Disk.padTo_length s k
    have hks : k * 16 < s.data.toList.length := by unfold Gw.Disk.manyOf at hlt; omega
    conv => whnf
    refine ⟨by omega, ?_⟩
    conv => whnf
    have w1 : IntKind.i64.wrap ((k : Int) * 16) = (k : Int) * 16 := w64 (by omega) (by omega)
    rw [w1]
    refine ⟨by omega, ?_⟩
    conv => whnf
    refine ⟨by rw [bytesV_len, hpl]; omega, ?_⟩
    conv => whnf
    refine ⟨by kernel_rfl, ?_⟩
    conv => whnf
    refine ⟨k + 1, by show k + 1 ≤ _; omega, by show _ - (k + 1) < _ - k; omega, rfl, rfl, rfl, rfl, rfl, rfl, ?_, rfl, ?_, rfl, trivial⟩
    · show C.v (V.int .i64 (IntKind.i64.wrap ((k : Int) + 1))) = _
      rw [w64 (by omega) (by omega)]; rfl
    · show C.mem _ ((bytesV (Gw.Disk.padTo s k)).take (0 + (k : Int).toNat * 16) ++ (bytesV (s.data.toList.drop ((k : Int) * 16).toNat)).take (min (s.data.toList.drop ((k : Int) * 16).toNat).length 16 * 1) ++ (bytesV (Gw.Disk.padTo s k)).drop (0 + (k : Int).toNat * 16 + min (s.data.toList.drop ((k : Int) * 16).toNat).length 16 * 1)) = _
      have e1 : 0 + (k : Int).toNat * 16 = k * 16 := by omega
      have e2 : ((k : Int) * 16).toNat = k * 16 := by omega
      rw [Gw.Disk.padTo_succ s k hlt, e1, e2, bytesV_append, bytesV_append]
      have e3 : min (s.data.toList.drop (k * 16)).length 16 * 1 = ((s.data.toList.drop (k * 16)).take 16).length := by rw [List.length_take]; omega
      rw [e3]
      have e4 : (bytesV (s.data.toList.drop (k * 16))).take ((s.data.toList.drop (k * 16)).take 16).length = bytesV ((s.data.toList.drop (k * 16)).take 16) := by
        rw [← bytesV_take]
        congr 1
        rw [List.length_take, ← List.take_take, List.take_length]
      rw [e4, ← bytesV_take, ← bytesV_drop]
  · have h4 := of_decide_eq_false h4
    obtain rfl : k = Gw.Disk.manyOf s := by omega
    conv => whnf
    have hpl := Gw.Disk.padTo_length s (Gw.Disk.manyOf s)
    rw [Gw.Disk.padTo_all] at hpl
    refine .mem (cells := bytesV (Gw.Disk.padTo s (Gw.Disk.manyOf s))) rfl ?_ ?_ ?_ ?_ ?_
    · simp [encC]
    · intro el hel
      obtain ⟨i, hi, rfl⟩ := List.mem_map.1 hel
      rw [bytesV_len, List.length_take, List.length_drop]
      have := List.mem_range.1 hi
      omega
    · rw [bytesV_len, Gw.Disk.padTo_all]; omega
    · rw [Gw.Disk.padTo_all, List.drop_zero, List.take_of_length_le (by rw [bytesV_len]; omega), encC, bytesV_flat, ← Gw.Disk.flat_of _ _ hpl]
    · rw [encC, bytesV_flat]; exact oneAll_dbytes _
theorem list16 {l : List UInt8} (h : l.length = 16) : ∃ a0 a1 a2 a3 a4 a5 a6 a7 a8 a9 a10 a11 a12 a13 a14 a15, l = [a0, a1, a2, a3, a4, a5, a6, a7, a8, a9, a10, a11, a12, a13, a14, a15] := by
  match l, h with
  | [a0, a1, a2, a3, a4, a5, a6, a7, a8, a9, a10, a11, a12, a13, a14, a15], _ => exact ⟨a0, a1, a2, a3, a4, a5, a6, a7, a8, a9, a10, a11, a12, a13, a14, a15, rfl⟩

theorem write_pc (nil : Bool) (d : Gw.Disk.Disk) (at_ : Int) (s : ByteArray) (hn : nil = true → d.loose = []) (hsz : I64 d.size) (ha : I64 at_) (hl : d.loose.length ≤ 1048576) (hs : s.size ≤ 1048576) :
    PC Tryd.prog 67 [encD nil d, .int .i64 at_, .str s.data.toList] (.tup [encD (if Gw.Disk.writeErr d at_ s = 0 then false else nil) (Gw.Disk.write d at_ s), .int .i64 (Gw.Disk.writeErr d at_ s)]) := by
  have hck := check_pc nil d hsz hl
  have hsa := same_pc nil d hn (by omega)
  have hsp := fun hc => Gw.Disk.check_spec (d := d) hc
  have hcut := cut_pc s hs
  have hsl : s.data.toList.length = s.size := rfl
  have hmy := many_pc s.data.toList (by omega)
  rw [show (s.data.toList.length + 15) / 16 = Gw.Disk.manyOf s from rfl] at hmy
  have hmb : Gw.Disk.manyOf s ≤ 65537 := by unfold Gw.Disk.manyOf; omega
  have hwe : Gw.Disk.writeErr d at_ s = if Gw.Disk.check d = false ∨ at_ < 0 then 121 else if d.size - (Gw.Disk.manyOf s : Int) < at_ then 120 else 0 := rfl
  unfold I64 at ha
  unfold Gw.Disk.write
  generalize Gw.Disk.check d = q at hck hsp hwe
  obtain ⟨size, firm, loose⟩ := d
  simp only at hl
  refine PC.ofS tabOk mixed (fn := Tryd.f67) (by kernel_rfl) rfl (by kernel_rfl) rfl rfl ?_
  conv => whnf
  refine AC.of_pc hck rfl ?_
  conv => whnf
  refine ⟨fun h1 => ?_, fun h1 => ?_⟩
  · have h1 : q = false := by simpa using h1
    conv => whnf
    refine AC.of_pc hsa rfl ?_
    conv => whnf
    have e : Gw.Disk.writeErr ⟨size, firm, loose⟩ at_ s = 121 := by rw [hwe, if_pos (.inl h1)]
    rw [e, if_neg (by decide), if_neg (by decide)]
    exact SubV.refl _
  have h1 : q = true := by simpa using h1
  obtain ⟨z1, z2, z3, z4⟩ := hsp h1
  simp only at z1 z2 z3 z4 hwe
  conv => whnf
  refine ⟨fun h2 => ?_, fun h2 => ?_⟩
  · have h2 := of_decide_eq_true h2
    conv => whnf
    refine AC.of_pc hsa rfl ?_
    conv => whnf
    have e : Gw.Disk.writeErr ⟨size, firm, loose⟩ at_ s = 121 := by rw [hwe, if_pos (.inr h2)]
    rw [e, if_neg (by decide), if_neg (by decide)]
    exact SubV.refl _
  have h2 := of_decide_eq_false h2
  rw [if_neg (by rw [h1]; simp; omega)] at hwe
  conv => whnf
  refine ⟨_, rfl, hmy, ?_⟩
  have w1 : IntKind.i64.wrap (size - (Gw.Disk.manyOf s : Int)) = size - (Gw.Disk.manyOf s : Int) := w64 (by omega) (by omega)
  conv => whnf
  rw [w1]
  refine ⟨by kernel_rfl, ?_⟩
  conv => whnf
  refine ⟨fun h3 => ?_, fun h3 => ?_⟩
  · have h3 := of_decide_eq_true h3
    conv => whnf
    refine AC.of_pc hsa rfl ?_
    conv => whnf
    have e : Gw.Disk.writeErr ⟨size, firm, loose⟩ at_ s = 120 := by rw [hwe, if_pos h3]
    rw [e, if_neg (by decide), if_neg (by decide)]
    exact SubV.refl _
  have h3 := of_decide_eq_false h3
  rw [if_neg h3] at hwe
  rw [hwe, if_pos rfl, if_pos rfl]
  conv => whnf
  refine AC.of_pc hcut rfl ?_
  conv => whnf
  have hel0 : (encC s).length = Gw.Disk.manyOf s := by simp [encC]
  have w2 : IntKind.i64.wrap (((loose.map encP).length : Int) + ((encC s).length : Int)) = ((loose.length + Gw.Disk.manyOf s : Nat) : Int) := by
    rw [List.length_map, hel0, w64 (by omega) (by omega)]; omega
  rw [w2]
  refine ⟨⟨by omega, fits_small (by rw [Int.toNat_natCast]; omega) (by decide)⟩, ?_⟩
  conv => whnf
  refine ⟨⟨rfl, fits_small (by rw [List.length_map]; simp only [List.length_nil]; omega) (by decide)⟩, ?_⟩
  conv => whnf
  refine AW.loop (fun k : Nat => [(.tmp 1, .v (.int .i64 at_)), (.tmp 3, .v (.ptr 0 0)), (.tmp 6, .v (.ptr 1 0)), (.tmp 7, .v (.int .i64 0)), (.tmp 9, .v (.lst false 2 ((loose ++ Gw.Disk.wrote at_ s k).map encP) (.row 25))), (.tmp 43, .v (.lst false 16 (encC s) .none)), (.tmp 44, .v (.int .i64 (Gw.Disk.manyOf s))), (.tmp 45, .v (.int .i64 k)),
    (.row 25, .row 58 2 (loose.length + k)), (.blk 0, .box 25 [.int .i64 size, .str firm.data.toList, .lst nil 2 (loose.map encP) .none]), (.blk 1, .box 25 [.int .i64 0, .str [], .lst true 1 [] .tight])]) 26 (fun k => k ≤ Gw.Disk.manyOf s) (fun k => Gw.Disk.manyOf s - k) (by decide) 0 (Nat.zero_le _)
    ⟨rfl, rfl, rfl, rfl, rfl, rfl, rfl, rfl, ?_, rfl, rfl, rfl, ?_, rfl, rfl, rfl, ?_, rfl, rfl, rfl, rfl, rfl, trivial⟩ ?_
  · show C.v (V.lst _ 2 ([] ++ loose.map encP) _) = _
    simp [Gw.Disk.wrote]
  · show C.v (V.int .i64 ((encC s).length : Nat)) = _
    rw [hel0]
  · show C.row _ 2 ([].length + (loose.map encP).length) = _
    rw [List.length_map, List.length_nil]; simp
  rintro k hk
  refine ev_sound tabOk mixed _ _ _ _ ?_
  conv => whnf
  refine ⟨fun h4 => ?_, fun h4 => ?_⟩
  · have h4 := of_decide_eq_true h4
    have hlt : k < Gw.Disk.manyOf s := by omega
    have hws := Gw.Disk.wrote_succ at_ s k
    have hwl := Gw.Disk.wrote_length at_ s k
    have hpl : (((Gw.Disk.pad s).drop (k * 16)).take 16).length = 16 := by
      rw [List.length_take, List.length_drop, Gw.Disk.pad_length]; omega
    have hgc : (encC s)[(k : Int).toNat]? = some (bytesV (((Gw.Disk.pad s).drop (k * 16)).take 16)) := by
      rw [Int.toNat_natCast, encC, List.getElem?_map, List.getElem?_range hlt]; rfl
    generalize ((Gw.Disk.pad s).drop (k * 16)).take 16 = ch at hws hpl hgc
    obtain ⟨a0, a1, a2, a3, a4, a5, a6, a7, a8, a9, a10, a11, a12, a13, a14, a15, rfl⟩ := list16 hpl
    conv => whnf
    refine ⟨_, ⟨by omega, hgc⟩, ?_⟩
    conv => whnf
    refine ⟨[a0, a1, a2, a3, a4, a5, a6, a7, a8, a9, a10, a11, a12, a13, a14, a15], ⟨Nat.le_refl _, rfl⟩, ?_⟩
    have w3 : IntKind.i64.wrap (at_ + (k : Int)) = at_ + (k : Int) := w64 (by omega) (by omega)
    conv => whnf
    rw [w3]
    have hlm : ((loose ++ Gw.Disk.wrote at_ s k).map encP).length = loose.length + k := by rw [List.length_map, List.length_append, hwl]
    refine ⟨⟨by rw [hlm], fits_small (by rw [hlm]; simp only [List.length_cons, List.length_nil]; omega) (by decide)⟩, ?_⟩
    conv => whnf
    refine ⟨k + 1, by show k + 1 ≤ _; omega, by show _ - (k + 1) < _ - k; omega, rfl, rfl, rfl, rfl, rfl, rfl, rfl, rfl, ?_, rfl, rfl, rfl, rfl, rfl, ?_, rfl, ?_, rfl, rfl, rfl, rfl, rfl, trivial⟩
    · show C.v (V.lst _ 2 ((loose ++ Gw.Disk.wrote at_ s k).map encP ++ [[.int .i64 (at_ + (k : Int)), .str [a0, a1, a2, a3, a4, a5, a6, a7, a8, a9, a10, a11, a12, a13, a14, a15]]]) _) = _
      rw [hws, ← List.append_assoc, List.map_append (l₁ := loose ++ _)]
      rfl
    · show C.v (V.int .i64 (IntKind.i64.wrap ((k : Int) + 1))) = _
      rw [w64 (by omega) (by omega)]; rfl
    · show C.row _ 2 (((loose ++ Gw.Disk.wrote at_ s k).map encP).length + 1) = _
      rw [hlm]; rfl
  · have h4 := of_decide_eq_false h4
    obtain rfl : k = Gw.Disk.manyOf s := by omega
    conv => whnf
    exact SubV.refl _
end Go.Proofs.YtjhblbipjljojaaDoor


namespace Go.Proofs.YtjhblbipjljojaaDoor
open Go.Am

theorem rread_pc (nil : Bool) (d : Gw.Disk.Disk) (at_ n : Int) (hsz : I64 d.size) (hf : d.size ≤ 65536) (ha : I64 at_) (hn : I64 n) (hl : d.loose.length ≤ 1048576) : PC Tryd.prog 40 [encD nil d, .int .i64 at_, .int .i64 n] (.tup [.str (Gw.Disk.read d at_ n), .int .i64 (Gw.Disk.readErr d at_ n)]) := by
  have hck := rcheck_pc nil d hsz hl hf
  have hse := fun (i : Nat) hc h => sector_pc nil d i hc h hl
  have hs := fun hc => Gw.Disk.check_spec (d := d) hc
  have hsf := fun hc a m h => Gw.Disk.seen_flat (d := d) hc a m h
  have hsl := fun hc i h => Gw.Disk.sec_length (d := d) hc i h
  have hmr : Gw.Disk.mayRead d at_ n = (Gw.Disk.check d && (decide (0 ≤ at_) && (decide (0 ≤ n) && decide (n ≤ d.size - at_)))) := rfl
  unfold I64 at ha hn
  unfold Gw.Disk.read Gw.Disk.readErr
  generalize Gw.Disk.check d = q at hck hse hs hmr hsf hsl
  have hsd : ∀ x, PC Tryd.prog 38 [encD nil d] x → PC Tryd.prog 38 [encD nil d] x := fun _ h => h
  generalize hsecd : Gw.Disk.sec d = sec at hse hsf hsl
  generalize hseen : Gw.Disk.seen d = seen at hsf ⊢
  obtain ⟨size, firm, loose⟩ := d
  show PC Tryd.prog _ [.agg [.int .i64 size, .str firm.data.toList, .lst nil 2 (loose.map encP) .none], .int .i64 at_, .int .i64 n] _
  refine PC.of tabOk mixed (fn := Tryd.f40) (by kernel_rfl) rfl (by kernel_rfl) rfl rfl ?_
  conv => whnf
  refine AC.of_pc hck rfl ?_
  conv => whnf
  refine ⟨fun h1 => ?_, fun h1 => ?_⟩
  · have h1 : q = false := by simpa using h1
    conv => whnf
    rw [hmr, h1]; rfl
  have h1 : q = true := by simpa using h1
  obtain ⟨z1, z2, z3, z4⟩ := hs h1
  simp only at z1 z2 z3 z4 hmr
  conv => whnf
  refine ⟨fun h2 => ?_, fun h2 => ?_⟩
  · have h2 := of_decide_eq_true h2
    conv => whnf
    rw [hmr, h1, decide_eq_false (by omega : ¬ 0 ≤ at_)]; rfl
  have h2 := of_decide_eq_false h2
  conv => whnf
  refine ⟨fun h3 => ?_, fun h3 => ?_⟩
  · have h3 := of_decide_eq_true h3
    conv => whnf
    rw [hmr, h1, decide_eq_true (by omega : 0 ≤ at_), decide_eq_false (by omega : ¬ 0 ≤ n)]; rfl
  have h3 := of_decide_eq_false h3
  conv => whnf
  refine ⟨fun h4 => ?_, fun h4 => ?_⟩
  · have h4 := of_decide_eq_true h4
    conv => whnf
    rw [hmr, h1, decide_eq_true (by omega : 0 ≤ at_), decide_eq_true (by omega : 0 ≤ n), decide_eq_false (by omega : ¬ n ≤ size - at_)]; rfl
  have h4 := of_decide_eq_false h4
  have w1 : IntKind.i64.wrap (size - at_) = size - at_ := w64 (by omega) (by omega)
  conv => whnf
  rw [w1]
  refine ⟨fun h5 => ?_, fun h5 => ?_⟩
  · have h5 := of_decide_eq_true h5
    conv => whnf
    rw [hmr, h1, decide_eq_true (by omega : 0 ≤ at_), decide_eq_true (by omega : 0 ≤ n), decide_eq_false (by omega : ¬ n ≤ size - at_)]; rfl
  have h5 := of_decide_eq_false h5
  obtain ⟨a, rfl⟩ := Int.eq_ofNat_of_zero_le (by omega : 0 ≤ at_)
  obtain ⟨m, rfl⟩ := Int.eq_ofNat_of_zero_le (by omega : 0 ≤ n)
  have hm : Gw.Disk.mayRead ⟨size, firm, loose⟩ (a : Int) (m : Int) = true := by rw [hmr, h1, decide_eq_true (by omega : (0 : Int) ≤ a), decide_eq_true (by omega : (0 : Int) ≤ m), decide_eq_true (by omega : (m : Int) ≤ size - a)]; rfl
  rw [if_pos hm, if_pos hm, Int.toNat_natCast, Int.toNat_natCast]
  have hfl := hsf h1 a m (by simp only; omega)
  rw [hfl]
  have hsec : ∀ i, i < m → (sec (a + i)).length = 16 := fun i hi => hsl h1 (a + i) (by simp only; omega)
  conv => whnf
  refine AW.loop (fun k : Nat => [(.tmp 1, .v (.int .i64 a)), (.tmp 2, .v (.int .i64 m)), (.tmp 3, .v (.ptr 0 0)), (.tmp 9, .v (.str (Gw.Disk.flat k fun i => sec (a + i)))), (.tmp 10, .v (.int .i64 k)),
    (.blk 0, .box 25 [.int .i64 size, .str firm.data.toList, .lst nil 2 (loose.map encP) .none])]) 1 (fun k => k ≤ m) (fun k => m - k) (by decide) 0 (Nat.zero_le _)
    ⟨rfl, rfl, rfl, rfl, rfl, rfl, rfl, rfl, rfl, rfl, rfl, rfl, trivial⟩ ?_
  rintro k hk
  have hfk := Gw.Disk.flat_length k (fun i => sec (a + i)) (fun i hi => hsec i (by omega))
  have hfs := Gw.Disk.flat_succ k (fun i => sec (a + i))
  refine ev_sound tabOk mixed _ _ _ _ ?_
  conv => whnf
  refine ⟨fun h6 => ?_, fun h6 => ?_⟩
  · have h6 := of_decide_eq_true h6
    have w2 : IntKind.i64.wrap ((a : Int) + (k : Int)) = ((a + k : Nat) : Int) := by rw [w64 (by omega) (by omega)]; rfl
    have hsk := hsec k (by omega)
    have hse := hse (a + k) h1 (by simp only; omega)
    conv => whnf
    rw [w2]
    refine AC.of_pc hse rfl ?_
    conv => whnf
    refine ⟨by omega, ?_⟩
    conv => whnf
    refine ⟨k + 1, by show k + 1 ≤ m; omega, by show _ - (k + 1) < _ - k; omega, rfl, rfl, rfl, rfl, rfl, rfl, ?_, rfl, ?_, rfl, rfl, rfl, trivial⟩
    · rw [hfs]; rfl
    · show C.v (V.int .i64 (IntKind.i64.wrap ((k : Int) + 1))) = _
      rw [w64 (by omega) (by omega)]; rfl
  · have h6 := of_decide_eq_false h6
    obtain rfl : k = m := by omega
    conv => whnf
    rfl

theorem rflush_pc (nil : Bool) (d : Gw.Disk.Disk) (hsz : I64 d.size) (hf : d.size ≤ 65536) (hl : d.loose.length ≤ 1048576) : PC Tryd.prog 50 [encD nil d] (encD (if Gw.Disk.check d = true then true else nil) (Gw.Disk.flush d)) := by
  have hck := rcheck_pc nil d hsz hl hf
  have hrd := fun (m : Int) h => rread_pc nil d 0 m hsz hf (by unfold I64; omega) h hl
  have hs := fun hc => Gw.Disk.check_spec (d := d) hc
  have hrs := fun (n : Nat) hc h => (Gw.Disk.read_seen (d := d) hc 0 n h).1
  unfold Gw.Disk.flush
  generalize Gw.Disk.check d = q at hck hs hrs ⊢
  obtain ⟨size, firm, loose⟩ := d
  refine PC.ofS tabOk mixed (fn := Tryd.f50) (by kernel_rfl) rfl (by kernel_rfl) rfl rfl ?_
  conv => whnf
  refine AC.of_pc hck rfl ?_
  conv => whnf
  refine ⟨fun h1 => ?_, fun h1 => ?_⟩
  · have h1 : q = false := by simpa using h1
    conv => whnf
    rw [h1]
    exact SubV.refl _
  have h1 : q = true := by simpa using h1
  obtain ⟨z1, z2, z3, z4⟩ := hs h1
  simp only at z1 z2 z3 z4
  have hrs := hrs size.toNat h1 (by simp only; omega)
  rw [Int.toNat_of_nonneg z1] at hrs
  conv => whnf
  refine AC.of_pc (hrd size (by unfold I64; omega)) rfl ?_
  conv => whnf
  rw [h1]
  refine SubV.agg (.cons (.of_eq rfl) (.cons (.of_eq ?_) (.cons (.nil _ _ _) .nil)))
  show V.str (Gw.Disk.read _ 0 size) = _
  exact congrArg V.str hrs

theorem same2_pc (na nb : Bool) (a : Gw.Disk.Disk) (ha : a.loose.length ≤ 1048576) : PC Tryd.prog 44 [encD na a, encD nb a] (.bool true) := by
  obtain ⟨z, f, l⟩ := a
  simp only at ha
  show PC Tryd.prog _ [.agg [.int .i64 z, .str f.data.toList, .lst na 2 (l.map encP) .none], .agg [.int .i64 z, .str f.data.toList, .lst nb 2 (l.map encP) .none]] _
  refine PC.of tabOk mixed (fn := Tryd.f44) (by kernel_rfl) rfl (by kernel_rfl) rfl rfl ?_
  conv => whnf
  refine ⟨fun h => absurd h (by simp), fun _ => ?_⟩
  conv => whnf
  refine ⟨fun h => absurd h (by simp), fun _ => ?_⟩
  conv => whnf
  refine ⟨fun h => absurd h (by simp), fun _ => ?_⟩
  conv => whnf
  refine AW.loop (fun k : Nat => [(.tmp 2, .v (.ptr 0 0)), (.tmp 3, .v (.ptr 1 0)), (.tmp 5, .v (.int .i64 k)),
    (.blk 0, .box 25 [.int .i64 z, .str f.data.toList, .lst na 2 (l.map encP) .none]), (.blk 1, .box 25 [.int .i64 z, .str f.data.toList, .lst nb 2 (l.map encP) .none])]) 2 (fun k => k ≤ l.length) (fun k => l.length - k) (by decide) 0 (Nat.zero_le _)
    ⟨rfl, rfl, rfl, rfl, rfl, rfl, rfl, rfl, rfl, rfl, trivial⟩ ?_
  rintro k hk
  refine ev_sound tabOk mixed _ _ _ _ ?_
  conv => whnf
  refine ⟨fun h => ?_, fun h => ?_⟩
  · have h := of_decide_eq_true h
    rw [List.length_map] at h
    have hlt : k < l.length := by omega
    obtain ⟨⟨pa, data⟩, hp⟩ : ∃ p, l[k] = p := ⟨_, rfl⟩
    have hel : (l.map encP)[k]? = some [.int .i64 pa, .str data.data.toList] := by rw [encP_get hlt, hp]; rfl
    conv => whnf
    refine ⟨_, ⟨by omega, hel⟩, ?_⟩
    conv => whnf
    refine ⟨_, ⟨by omega, hel⟩, ?_⟩
    conv => whnf
    refine ⟨by kernel_rfl, ?_⟩
    conv => whnf
    refine ⟨by kernel_rfl, ?_⟩
    conv => whnf
    refine ⟨fun h => absurd h (by simp), fun _ => ?_⟩
    conv => whnf
    refine ⟨k + 1, by show k + 1 ≤ _; omega, by show _ - (k + 1) < _ - k; omega, rfl, rfl, rfl, rfl, ?_, rfl, rfl, rfl, rfl, rfl, trivial⟩
    show C.v (V.int .i64 (IntKind.i64.wrap ((k : Int) + 1))) = _
    rw [w64 (by omega) (by omega)]; rfl
  · conv => whnf

theorem wu8 {x : Int} (h1 : 0 ≤ x) (h2 : x ≤ 255) : IntKind.u8.wrap x = x := by rw [IntKind.wrap_u8]; omega

theorem rcrash_pc (nil : Bool) (d : Gw.Disk.Disk) (s : ByteArray) (hsz : I64 d.size) (hf : d.size ≤ 65536) (hl : d.loose.length ≤ 1048576) (hs : s.size ≤ 1048576) : PC Tryd.prog 56 [encD nil d, .str s.data.toList] (encD (if Gw.Disk.check d = true then true else nil) (Gw.Disk.crash d s)) := by
  have hck := rcheck_pc nil d hsz hl hf
  have hsp := fun hc => Gw.Disk.check_spec (d := d) hc
  have hsl : s.data.toList.length = s.size := rfl
  unfold Gw.Disk.crash
  generalize Gw.Disk.check d = q at hck hsp ⊢
  obtain ⟨size, firm, loose⟩ := d
  have hck : PC Tryd.prog _ [.agg [.int .i64 size, .str firm.data.toList, .lst nil 2 (loose.map encP) .none]] _ := hck
  show PC Tryd.prog _ [.agg [.int .i64 size, .str firm.data.toList, .lst nil 2 (loose.map encP) .none], .str s.data.toList] _
  simp only at hl
  refine PC.ofS tabOk mixed (fn := Tryd.f56) (by kernel_rfl) rfl (by kernel_rfl) rfl rfl ?_
  conv => whnf
  refine AC.of_pc hck rfl ?_
  conv => whnf
  refine ⟨fun h1 => ?_, fun h1 => ?_⟩
  · have h1 : q = false := by simpa using h1
    conv => whnf
    rw [h1]
    exact SubV.refl _
  have h1 : q = true := by simpa using h1
  rw [h1]
  obtain ⟨z1, z2, z3, z4⟩ := hsp h1
  simp only at z1 z2 z3 z4
  have hfl : firm.data.toList.length = firm.size := rfl
  conv => whnf
  refine AW.loop (fun k : Nat => [(.tmp 1, .v (.str s.data.toList)), (.tmp 2, .v (.ptr 0 0)), (.tmp 4, .v (.ptr 1 0)), (.tmp 6, .v (.str (Gw.Disk.crashed s loose k firm.data.toList))), (.tmp 7, .v (.int .i64 k)),
    (.blk 0, .box 25 [.int .i64 size, .str firm.data.toList, .lst nil 2 (loose.map encP) .none]), (.blk 1, .box 25 [.int .i64 0, .str [], .lst true 1 [] .tight])]) 2 (fun k => k ≤ loose.length) (fun k => loose.length - k) (by decide) 0 (Nat.zero_le _)
    ⟨rfl, rfl, rfl, rfl, rfl, rfl, rfl, rfl, rfl, rfl, rfl, rfl, rfl, rfl, trivial⟩ ?_
  rintro k hk
  refine ev_sound tabOk mixed _ _ _ _ ?_
  conv => whnf
  refine ⟨fun h => ?_, fun h => ?_⟩
  · have h := of_decide_eq_true h
    rw [List.length_map] at h
    have hlt : k < loose.length := by omega
    have hz := z4 _ (List.getElem_mem hlt)
    have hcl : (Gw.Disk.crashed s loose k firm.data.toList).length = firm.data.toList.length := Gw.Disk.crashed_length s loose k _ (fun i hi => by
      have hz := z4 _ (List.getElem_mem (show i < loose.length by omega))
      rw [List.getD_eq_getElem?_getD, List.getElem?_eq_getElem (by omega)]
      simp only [Option.getD_some]
      omega)
    have hcs := Gw.Disk.crashed_succ s loose k firm.data.toList
    rw [List.getD_eq_getElem?_getD (l := loose), List.getElem?_eq_getElem hlt, Option.getD_some] at hcs
    obtain ⟨⟨pa, data⟩, hp⟩ : ∃ p, loose[k] = p := ⟨_, rfl⟩
    have hel : (loose.map encP)[k]? = some [.int .i64 pa, .str data.data.toList] := by rw [encP_get hlt, hp]; rfl
    rw [hp] at hz hcs
    simp only at hz
    have hds : data.size = data.data.toList.length := rfl
    obtain ⟨a, rfl⟩ := Int.eq_ofNat_of_zero_le hz.1
    generalize Gw.Disk.crashed s loose k firm.data.toList = cur at hcl hcs
    have w1 : IntKind.i64.wrap (16 * (a : Int)) = 16 * (a : Int) := w64 (by omega) (by omega)
    have hpo : Gw.Disk.pickOf s k = if k < s.size then (s.data.toList.getD k 0).toNat % 3 else 0 := rfl
    conv => whnf
    refine ⟨_, ⟨by omega, hel⟩, ?_⟩
    conv => whnf
    refine ⟨fun h2 => ?_, fun h2 => ?_⟩
    · have h2 := of_decide_eq_true h2
      have hks : k < s.data.toList.length := by omega
      obtain ⟨c, hc⟩ : ∃ c, s.data.toList[k]? = some c := ⟨_, List.getElem?_eq_getElem hks⟩
      rw [if_pos (by omega), List.getD_eq_getElem?_getD, hc, Option.getD_some] at hpo
      have hw3 : ((c.toNat : Nat) : Int).tmod 3 = ((c.toNat % 3 : Nat) : Int) := by rw [tmod_pos (by omega)]; rfl
      conv => whnf
      refine ⟨c, ⟨by omega, hc⟩, ?_⟩
      conv => whnf
      refine ⟨fun h3 => ?_, fun h3 => ?_⟩
      · rw [hw3] at h3
        have h3 : c.toNat % 3 = 1 := by have : ((c.toNat % 3 : Nat) : Int) = 1 := by simpa using h3
                                        omega
        conv => whnf
        refine ⟨fun h4 => ?_, fun h4 => absurd h4 (by simp; omega)⟩
        conv => whnf
        refine ⟨c, ⟨by omega, hc⟩, ?_⟩
        conv => whnf
        refine ⟨fun h5 => absurd (hw3 ▸ h5) (by simp; omega), fun h5 => ?_⟩
        have hpick : Gw.Disk.pickOf s k = 1 := by omega
        have w2 : IntKind.i64.wrap (16 * (a : Int) + 16) = 16 * (a : Int) + 16 := w64 (by omega) (by omega)
        conv => whnf
        rw [w1]
        refine ⟨by omega, ?_⟩
        conv => whnf
        refine ⟨by omega, ?_⟩
        conv => whnf
        refine ⟨by rw [List.length_take, List.length_take]; omega, ?_⟩
        conv => whnf
        rw [w1, w2]
        refine ⟨by omega, ?_⟩
        conv => whnf
        refine ⟨by rw [List.length_append, List.length_take, List.length_take, List.length_drop]; omega, ?_⟩
        conv => whnf
        refine ⟨by kernel_rfl, ?_⟩
        conv => whnf
        refine ⟨k + 1, by show k + 1 ≤ _; omega, by show _ - (k + 1) < _ - k; omega, rfl, rfl, rfl, rfl, rfl, rfl, ?_, rfl, ?_, rfl, rfl, rfl, rfl, rfl, trivial⟩
        · show C.v (V.str (cur.take (16 * (a : Int)).toNat ++ data.data.toList.take (16 : Int).toNat ++ cur.drop (16 * (a : Int) + 16).toNat)) = _
          rw [hcs, hpick, show (16 * (a : Int)).toNat = a * 16 by omega, show (16 * (a : Int) + 16).toNat = a * 16 + 16 by omega]
          show _ = C.v (V.str (Gw.Disk.over cur (a * 16) data.data.toList))
          rw [show (16 : Int).toNat = 16 from rfl, List.take_of_length_le (l := data.data.toList) (by omega), Gw.Disk.over, show data.data.toList.length = 16 by omega]
        · show C.v (V.int .i64 (IntKind.i64.wrap ((k : Int) + 1))) = _
          rw [w64 (by omega) (by omega)]; rfl
      · rw [hw3] at h3
        have h3 : c.toNat % 3 ≠ 1 := by
          intro e; rw [e] at h3; simp at h3
        conv => whnf
        refine ⟨fun h4 => ?_, fun h4 => absurd h4 (by simp; omega)⟩
        conv => whnf
        refine ⟨c, ⟨by omega, hc⟩, ?_⟩
        conv => whnf
        refine ⟨fun h5 => ?_, fun h5 => ?_⟩
        · rw [hw3] at h5
          have h5 : c.toNat % 3 = 2 := by have : ((c.toNat % 3 : Nat) : Int) = 2 := by simpa using h5
                                          omega
          have hpick : Gw.Disk.pickOf s k = 2 := by omega
          have w2 : IntKind.i64.wrap (16 * (a : Int) + 8) = 16 * (a : Int) + 8 := w64 (by omega) (by omega)
          conv => whnf
          rw [w1]
          refine ⟨by omega, ?_⟩
          conv => whnf
          refine ⟨by omega, ?_⟩
          conv => whnf
          refine ⟨by rw [List.length_take, List.length_take]; omega, ?_⟩
          conv => whnf
          rw [w1, w2]
          refine ⟨by omega, ?_⟩
          conv => whnf
          refine ⟨by rw [List.length_append, List.length_take, List.length_take, List.length_drop]; omega, ?_⟩
          conv => whnf
          refine ⟨by kernel_rfl, ?_⟩
          conv => whnf
          refine ⟨k + 1, by show k + 1 ≤ _; omega, by show _ - (k + 1) < _ - k; omega, rfl, rfl, rfl, rfl, rfl, rfl, ?_, rfl, ?_, rfl, rfl, rfl, rfl, rfl, trivial⟩
          · show C.v (V.str (cur.take (16 * (a : Int)).toNat ++ data.data.toList.take (8 : Int).toNat ++ cur.drop (16 * (a : Int) + 8).toNat)) = _
            rw [hcs, hpick, show (16 * (a : Int)).toNat = a * 16 by omega, show (16 * (a : Int) + 8).toNat = a * 16 + 8 by omega]
            show _ = C.v (V.str (Gw.Disk.over cur (a * 16) (data.data.toList.take 8)))
            rw [show (8 : Int).toNat = 8 from rfl, Gw.Disk.over, show (data.data.toList.take 8).length = 8 by rw [List.length_take]; omega]
          · show C.v (V.int .i64 (IntKind.i64.wrap ((k : Int) + 1))) = _
            rw [w64 (by omega) (by omega)]; rfl
        · rw [hw3] at h5
          have h5 : c.toNat % 3 ≠ 2 := by
            intro e; rw [e] at h5; simp at h5
          have hpick : Gw.Disk.pickOf s k = 0 := by omega
          have w2 : IntKind.i64.wrap (16 * (a : Int) + 0) = 16 * (a : Int) + 0 := w64 (by omega) (by omega)
          conv => whnf
          rw [w1]
          refine ⟨by omega, ?_⟩
          conv => whnf
          refine ⟨by omega, ?_⟩
          conv => whnf
          refine ⟨by rw [List.length_take, List.length_take]; omega, ?_⟩
          conv => whnf
          rw [w1, w2]
          refine ⟨by omega, ?_⟩
          conv => whnf
          refine ⟨by rw [List.length_append, List.length_take, List.length_take, List.length_drop]; omega, ?_⟩
          conv => whnf
          refine ⟨by kernel_rfl, ?_⟩
          conv => whnf
          refine ⟨k + 1, by show k + 1 ≤ _; omega, by show _ - (k + 1) < _ - k; omega, rfl, rfl, rfl, rfl, rfl, rfl, ?_, rfl, ?_, rfl, rfl, rfl, rfl, rfl, trivial⟩
          · show C.v (V.str (cur.take (16 * (a : Int)).toNat ++ data.data.toList.take (0 : Int).toNat ++ cur.drop (16 * (a : Int) + 0).toNat)) = _
            rw [hcs, hpick, show (16 * (a : Int)).toNat = a * 16 by omega, show (16 * (a : Int) + 0).toNat = a * 16 + 0 by omega]
            show _ = C.v (V.str cur)
            rw [show (0 : Int).toNat = 0 from rfl, List.take_zero, List.append_nil, Nat.add_zero, List.take_append_drop]
          · show C.v (V.int .i64 (IntKind.i64.wrap ((k : Int) + 1))) = _
            rw [w64 (by omega) (by omega)]; rfl
    · have h2 := of_decide_eq_false h2
      have hpick : Gw.Disk.pickOf s k = 0 := by rw [hpo, if_neg (by omega)]
      conv => whnf
      refine ⟨fun h4 => absurd h4 (by simp; omega), fun h4 => ?_⟩
      have w2 : IntKind.i64.wrap (16 * (a : Int) + 0) = 16 * (a : Int) + 0 := w64 (by omega) (by omega)
      conv => whnf
      rw [w1]
      refine ⟨by omega, ?_⟩
      conv => whnf
      refine ⟨by omega, ?_⟩
      conv => whnf
      refine ⟨by rw [List.length_take, List.length_take]; omega, ?_⟩
      conv => whnf
      rw [w1, w2]
      refine ⟨by omega, ?_⟩
      conv => whnf
      refine ⟨by rw [List.length_append, List.length_take, List.length_take, List.length_drop]; omega, ?_⟩
      conv => whnf
      refine ⟨by kernel_rfl, ?_⟩
      conv => whnf
      refine ⟨k + 1, by show k + 1 ≤ _; omega, by show _ - (k + 1) < _ - k; omega, rfl, rfl, rfl, rfl, rfl, rfl, ?_, rfl, ?_, rfl, rfl, rfl, rfl, rfl, trivial⟩
      · show C.v (V.str (cur.take (16 * (a : Int)).toNat ++ data.data.toList.take (0 : Int).toNat ++ cur.drop (16 * (a : Int) + 0).toNat)) = _
        rw [hcs, hpick, show (16 * (a : Int)).toNat = a * 16 by omega, show (16 * (a : Int) + 0).toNat = a * 16 + 0 by omega]
        show _ = C.v (V.str cur)
        rw [show (0 : Int).toNat = 0 from rfl, List.take_zero, List.append_nil, Nat.add_zero, List.take_append_drop]
      · show C.v (V.int .i64 (IntKind.i64.wrap ((k : Int) + 1))) = _
        rw [w64 (by omega) (by omega)]; rfl
  · have h := of_decide_eq_false h
    rw [List.length_map] at h
    obtain rfl : k = loose.length := by omega
    conv => whnf
    exact SubV.agg (.cons (.of_eq rfl) (.cons (.of_eq rfl) (.cons (.nil _ _ _) .nil)))
end Go.Proofs.YtjhblbipjljojaaDoor


namespace Go.Proofs.YtjhblbipjljojaaDoor
open Go.Am

theorem over2 {L : List V} {l t : List UInt8} {i len off n : Nat} (hL : L = bytesV l) (ho : off = i) (hn : n = t.length) (hlen : t.length ≤ len) (h : i + t.length ≤ l.length) :
    L.take off ++ (bytesV t).take (min n len * 1) ++ L.drop (off + min n len * 1) = bytesV (Gw.Disk.over l i t) := by
  subst hL ho hn
  have e : min t.length len * 1 = t.length := by omega
  rw [e, List.take_of_length_le (l := bytesV t) (by rw [bytesV_len]; exact Nat.le_refl _)]
  unfold Gw.Disk.over
  rw [bytesV_append, bytesV_append, bytesV_take, bytesV_drop]

theorem crash_pc (nil : Bool) (d : Gw.Disk.Disk) (s : ByteArray) (hn : nil = true → d.loose = []) (hsz : I64 d.size) (hl : d.loose.length ≤ 1048576) (hs : s.size ≤ 1048576) : PC Tryd.prog 20 [encD nil d, .str s.data.toList] (encD (if Gw.Disk.check d = true then true else nil) (Gw.Disk.crash d s)) := by
  have hck := check_pc nil d hsz hl
  have hsa := same_pc nil d hn (by omega)
  have hsp := fun hc => Gw.Disk.check_spec (d := d) hc
  have hsl : s.data.toList.length = s.size := rfl
  unfold Gw.Disk.crash
  generalize Gw.Disk.check d = q at hck hsp ⊢
  obtain ⟨size, firm, loose⟩ := d
  have hck : PC Tryd.prog _ [.agg [.int .i64 size, .str firm.data.toList, .lst nil 2 (loose.map encP) .none]] _ := hck
  have hsa : PC Tryd.prog _ [.agg [.int .i64 size, .str firm.data.toList, .lst nil 2 (loose.map encP) .none]] (.agg [.int .i64 size, .str firm.data.toList, .lst nil 2 (loose.map encP) .none]) := hsa
  show PC Tryd.prog _ [.agg [.int .i64 size, .str firm.data.toList, .lst nil 2 (loose.map encP) .none], .str s.data.toList] _
  simp only at hl
  refine PC.ofS tabOk mixed (fn := Tryd.f20) (by kernel_rfl) rfl (by kernel_rfl) rfl rfl ?_
  conv => whnf
  refine AC.of_pc hck rfl ?_
  conv => whnf
  refine ⟨fun h1 => ?_, fun h1 => ?_⟩
  · have h1 : q = false := by simpa using h1
    conv => whnf
    refine AC.of_pc hsa rfl ?_
    conv => whnf
    rw [h1]
    exact SubV.refl _
  have h1 : q = true := by simpa using h1
  rw [h1]
  obtain ⟨z1, z2, z3, z4⟩ := hsp h1
  simp only at z1 z2 z3 z4
  have hfl : firm.data.toList.length = firm.size := rfl
  conv => whnf
  refine AW.loop (fun k : Nat => [(.tmp 1, .v (.str s.data.toList)), (.tmp 2, .v (.ptr 0 0)), (.tmp 4, .v (.ptr 1 0)), (.tmp 5, .v (.own 6 0 1 firm.data.toList.length true)), (.tmp 20, .v (.int .i64 (loose.map encP).length)), (.tmp 21, .v (.int .i64 k)),
    (.blk 0, .box 25 [.int .i64 size, .str firm.data.toList, .lst nil 2 (loose.map encP) .none]), (.blk 1, .box 25 [.int .i64 0, .str [], .lst true 1 [] .tight]),
    (.blk 6, .mem 5 (bytesV (Gw.Disk.crashed s loose k firm.data.toList)))]) 7 (fun k => k ≤ loose.length) (fun k => loose.length - k) (by decide) 0 (Nat.zero_le _)
    ⟨rfl, rfl, rfl, rfl, rfl, rfl, rfl, rfl, rfl, rfl, rfl, rfl, rfl, rfl, rfl, rfl, rfl, rfl, trivial⟩ ?_
  rintro k hk
  have hcl : ∀ k, k ≤ loose.length → (Gw.Disk.crashed s loose k firm.data.toList).length = firm.data.toList.length := fun k hk => Gw.Disk.crashed_length s loose k _ (fun i hi => by
      have hz := z4 _ (List.getElem_mem (show i < loose.length by omega))
      rw [List.getD_eq_getElem?_getD, List.getElem?_eq_getElem (by omega)]
      simp only [Option.getD_some]
      omega)
  have hcl := hcl k hk
  refine ev_sound tabOk mixed _ _ _ _ ?_
  conv => whnf
  refine ⟨fun h => ?_, fun h => ?_⟩
  · have h := of_decide_eq_true h
    rw [List.length_map] at h
    have hlt : k < loose.length := by omega
    have hz := z4 _ (List.getElem_mem hlt)
    have hcs := Gw.Disk.crashed_succ s loose k firm.data.toList
    rw [List.getD_eq_getElem?_getD (l := loose), List.getElem?_eq_getElem hlt, Option.getD_some] at hcs
    obtain ⟨⟨pa, data⟩, hp⟩ : ∃ p, loose[k] = p := ⟨_, rfl⟩
    have hel : (loose.map encP)[k]? = some [.int .i64 pa, .str data.data.toList] := by rw [encP_get hlt, hp]; rfl
    rw [hp] at hz hcs
    simp only at hz
    have hds : data.size = data.data.toList.length := rfl
    obtain ⟨a, rfl⟩ := Int.eq_ofNat_of_zero_le hz.1
    generalize Gw.Disk.crashed s loose k firm.data.toList = cur at hcl hcs
    have w1 : IntKind.i64.wrap ((a : Int) * 16) = (a : Int) * 16 := w64 (by omega) (by omega)
    have hpo : Gw.Disk.pickOf s k = if k < s.size then (s.data.toList.getD k 0).toNat % 3 else 0 := rfl
    conv => whnf
    refine ⟨_, ⟨by omega, hel⟩, ?_⟩
    conv => whnf
    refine ⟨fun h2 => ?_, fun h2 => ?_⟩
    · have h2 := of_decide_eq_true h2
      have hks : k < s.data.toList.length := by omega
      obtain ⟨c, hc⟩ : ∃ c, s.data.toList[k]? = some c := ⟨_, List.getElem?_eq_getElem hks⟩
      rw [if_pos (by omega), List.getD_eq_getElem?_getD, hc, Option.getD_some] at hpo
      have hcc := c.toNat_lt
      have hw3 : (IntKind.i64.wrap ((c.toNat : Nat) : Int)).tmod 3 = ((c.toNat % 3 : Nat) : Int) := by rw [w64 (by omega) (by omega), tmod_pos (by omega)]; rfl
      conv => whnf
      refine ⟨c, ⟨by omega, hc⟩, ?_⟩
      conv => whnf
      rw [w1]
      refine ⟨by omega, ?_⟩
      conv => whnf
      refine ⟨by omega, ?_⟩
      conv => whnf
      refine ⟨fun h3 => ?_, fun h3 => ?_⟩
      · rw [hw3] at h3
        have h3 : c.toNat % 3 = 1 := by have : ((c.toNat % 3 : Nat) : Int) = 1 := by simpa using h3
                                        omega
        have hpick : Gw.Disk.pickOf s k = 1 := by omega
        conv => whnf
        refine ⟨by omega, ?_⟩
        conv => whnf
        refine ⟨by omega, ?_⟩
        conv => whnf
        refine ⟨by rw [bytesV_len]; omega, ?_⟩
        conv => whnf
        refine ⟨by kernel_rfl, ?_⟩
        conv => whnf
        refine ⟨by omega, ?_⟩
        conv => whnf
        refine ⟨by simp only [List.length_append, List.length_take, List.length_drop, bytesV_len]; omega, ?_⟩
        conv => whnf
        refine ⟨k + 1, by show k + 1 ≤ _; omega, by show _ - (k + 1) < _ - k; omega, rfl, rfl, rfl, rfl, rfl, rfl, rfl, rfl, rfl, rfl, ?_, rfl, rfl, rfl, rfl, rfl, ?_, rfl, trivial⟩
        · show C.v (V.int .i64 (IntKind.i64.wrap ((k : Int) + 1))) = _
          rw [w64 (by omega) (by omega)]; rfl
        · rw [hcs, hpick]
          show C.mem _ _ = C.mem _ (bytesV (Gw.Disk.over cur (a * 16) data.data.toList))
          rw [← Gw.Disk.over_halves cur (a * 16) data.data.toList (by omega) (by omega)]
          congr 1
          refine over2 (i := a * 16) (over2 (i := a * 16 + 8) (t := data.data.toList.drop 8) rfl ?_ ?_ ?_ ?_) ?_ ?_ ?_ ?_
          · omega
          · rfl
          · rw [List.length_drop]; omega
          · rw [List.length_drop]; omega
          · omega
          · rfl
          · show (data.data.toList.take 8).length ≤ 16; rw [List.length_take]; omega
          · show _ + (data.data.toList.take 8).length ≤ _
            rw [Gw.Disk.over_length _ _ _ (by rw [List.length_drop]; omega), List.length_take]; omega
      · rw [hw3] at h3
        have h3 : c.toNat % 3 ≠ 1 := by
          intro e; rw [e] at h3; simp at h3
        conv => whnf
        refine ⟨fun h5 => ?_, fun h5 => ?_⟩
        · rw [hw3] at h5
          have h5 : c.toNat % 3 = 2 := by have : ((c.toNat % 3 : Nat) : Int) = 2 := by simpa using h5
                                          omega
          have hpick : Gw.Disk.pickOf s k = 2 := by omega
          conv => whnf
          refine ⟨by omega, ?_⟩
          conv => whnf
          refine ⟨by rw [bytesV_len]; omega, ?_⟩
          conv => whnf
          refine ⟨k + 1, by show k + 1 ≤ _; omega, by show _ - (k + 1) < _ - k; omega, rfl, rfl, rfl, rfl, rfl, rfl, rfl, rfl, rfl, rfl, ?_, rfl, rfl, rfl, rfl, rfl, ?_, rfl, trivial⟩
          · show C.v (V.int .i64 (IntKind.i64.wrap ((k : Int) + 1))) = _
            rw [w64 (by omega) (by omega)]; rfl
          · rw [hcs, hpick]
            show C.mem _ _ = C.mem _ (bytesV (Gw.Disk.over cur (a * 16) (data.data.toList.take 8)))
            congr 1
            refine over2 (i := a * 16) rfl ?_ ?_ ?_ ?_
            · omega
            · rfl
            · show (data.data.toList.take 8).length ≤ 16; rw [List.length_take]; omega
            · rw [List.length_take]; omega
        · rw [hw3] at h5
          have h5 : c.toNat % 3 ≠ 2 := by
            intro e; rw [e] at h5; simp at h5
          have hpick : Gw.Disk.pickOf s k = 0 := by omega
          conv => whnf
          refine ⟨k + 1, by show k + 1 ≤ _; omega, by show _ - (k + 1) < _ - k; omega, rfl, rfl, rfl, rfl, rfl, rfl, rfl, rfl, rfl, rfl, ?_, rfl, rfl, rfl, rfl, rfl, ?_, rfl, trivial⟩
          · show C.v (V.int .i64 (IntKind.i64.wrap ((k : Int) + 1))) = _
            rw [w64 (by omega) (by omega)]; rfl
          · rw [hcs, hpick]
            rfl
    · have h2 := of_decide_eq_false h2
      have hpick : Gw.Disk.pickOf s k = 0 := by rw [hpo, if_neg (by omega)]
      conv => whnf
      rw [w1]
      refine ⟨by omega, ?_⟩
      conv => whnf
      refine ⟨by omega, ?_⟩
      conv => whnf
      refine ⟨fun h3 => absurd h3 (by decide), fun h3 => ?_⟩
      conv => whnf
      refine ⟨fun h3 => absurd h3 (by decide), fun h3 => ?_⟩
      conv => whnf
      refine ⟨k + 1, by show k + 1 ≤ _; omega, by show _ - (k + 1) < _ - k; omega, rfl, rfl, rfl, rfl, rfl, rfl, rfl, rfl, rfl, rfl, ?_, rfl, rfl, rfl, rfl, rfl, ?_, rfl, trivial⟩
      · show C.v (V.int .i64 (IntKind.i64.wrap ((k : Int) + 1))) = _
        rw [w64 (by omega) (by omega)]; rfl
      · rw [hcs, hpick]
        rfl
  · have h := of_decide_eq_false h
    rw [List.length_map] at h
    obtain rfl : k = loose.length := by omega
    conv => whnf
    refine ⟨Gw.Disk.crashed s loose loose.length firm.data.toList, bytesV_all' hcl.symm, ?_⟩
    conv => whnf
    exact SubV.agg (.cons (.of_eq rfl) (.cons (.of_eq rfl) (.cons (.nil _ _ _) .nil)))
theorem rwrite_pc (nil : Bool) (d : Gw.Disk.Disk) (at_ : Int) (s : ByteArray) (hsz : I64 d.size) (hf : d.size ≤ 65536) (ha : I64 at_) (hl : d.loose.length ≤ 1048576) (hs : s.size ≤ 1048576) :
    PC Tryd.prog 42 [encD nil d, .int .i64 at_, .str s.data.toList] (.tup [encD (if Gw.Disk.writeErr d at_ s = 0 then false else nil) (Gw.Disk.write d at_ s), .int .i64 (Gw.Disk.writeErr d at_ s)]) := by
  have hck := rcheck_pc nil d hsz hl hf
  have hsp := fun hc => Gw.Disk.check_spec (d := d) hc
  have hsl : s.data.toList.length = s.size := rfl
  have hmb : Gw.Disk.manyOf s ≤ 65537 := by unfold Gw.Disk.manyOf; omega
  have hwe : Gw.Disk.writeErr d at_ s = if Gw.Disk.check d = false ∨ at_ < 0 then 121 else if d.size - (Gw.Disk.manyOf s : Int) < at_ then 120 else 0 := rfl
  unfold I64 at ha
  unfold Gw.Disk.write
  generalize Gw.Disk.check d = q at hck hsp hwe
  obtain ⟨size, firm, loose⟩ := d
  have hck : PC Tryd.prog _ [.agg [.int .i64 size, .str firm.data.toList, .lst nil 2 (loose.map encP) .none]] _ := hck
  show PC Tryd.prog _ [.agg [.int .i64 size, .str firm.data.toList, .lst nil 2 (loose.map encP) .none], .int .i64 at_, .str s.data.toList] _
  simp only at hl
  refine PC.ofS tabOk mixed (fn := Tryd.f42) (by kernel_rfl) rfl (by kernel_rfl) rfl rfl ?_
  conv => whnf
  refine AC.of_pc hck rfl ?_
  conv => whnf
  refine ⟨fun h1 => ?_, fun h1 => ?_⟩
  · have h1 : q = false := by simpa using h1
    conv => whnf
    have e : Gw.Disk.writeErr ⟨size, firm, loose⟩ at_ s = 121 := by rw [hwe, if_pos (.inl h1)]
    rw [e, if_neg (by decide), if_neg (by decide)]
    exact SubV.refl _
  have h1 : q = true := by simpa using h1
  obtain ⟨z1, z2, z3, z4⟩ := hsp h1
  simp only at z1 z2 z3 z4 hwe
  conv => whnf
  refine ⟨fun h2 => ?_, fun h2 => ?_⟩
  · have h2 := of_decide_eq_true h2
    conv => whnf
    have e : Gw.Disk.writeErr ⟨size, firm, loose⟩ at_ s = 121 := by rw [hwe, if_pos (.inr h2)]
    rw [e, if_neg (by decide), if_neg (by decide)]
    exact SubV.refl _
  have h2 := of_decide_eq_false h2
  rw [if_neg (by rw [h1]; simp; omega)] at hwe
  have hz : (IntKind.i64.wrap (16 - ((s.data.toList.length : Nat) : Int).tmod 16)).tmod 16 = ((Gw.Disk.manyOf s * 16 - s.data.toList.length : Nat) : Int) := by
    rw [tmod_pos (a := ((s.data.toList.length : Nat) : Int)) (by omega), w64 (by omega) (by omega), tmod_pos (by omega), hsl]; unfold Gw.Disk.manyOf; omega
  have hpd : s.data.toList ++ List.replicate ((Gw.Disk.manyOf s * 16 - s.data.toList.length : Nat) : Int).toNat 0 = Gw.Disk.pad s := by rw [Int.toNat_natCast]; rfl
  have hpl := Gw.Disk.pad_length s
  have hzz := zeros_pc ((Gw.Disk.manyOf s * 16 - s.data.toList.length : Nat) : Int) (by rw [hsl]; unfold Gw.Disk.manyOf; omega)
  conv => whnf
  rw [hz]
  refine AC.of_pc hzz rfl ?_
  conv => whnf
  rw [hpd]
  refine ⟨by rw [List.length_replicate]; omega, ?_⟩
  have hq : IntKind.i64.wrap (((Gw.Disk.pad s).length : Int).tdiv 16) = (Gw.Disk.manyOf s : Int) := by rw [tdiv_pos (by omega), hpl, w64 (by omega) (by omega)]; omega
  have w1 : IntKind.i64.wrap (size - (Gw.Disk.manyOf s : Int)) = size - (Gw.Disk.manyOf s : Int) := w64 (by omega) (by omega)
  have w4 : IntKind.i64.wrap (size - at_) = size - at_ := w64 (by omega) (by omega)
  conv => whnf
  refine ⟨fun h3 => ?_, fun h3 => ?_⟩
  · have h3 := of_decide_eq_true h3
    conv => whnf
    have e : Gw.Disk.writeErr ⟨size, firm, loose⟩ at_ s = 120 := by rw [hwe, if_pos (by omega)]
    rw [e, if_neg (by decide), if_neg (by decide)]
    exact SubV.refl _
  have h3 := of_decide_eq_false h3
  conv => whnf
  rw [w4, hq]
  refine ⟨fun h4 => ?_, fun h4 => ?_⟩
  · have h4 := of_decide_eq_true h4
    conv => whnf
    have e : Gw.Disk.writeErr ⟨size, firm, loose⟩ at_ s = 120 := by rw [hwe, if_pos (by omega)]
    rw [e, if_neg (by decide), if_neg (by decide)]
    exact SubV.refl _
  have h4 := of_decide_eq_false h4
  rw [if_neg (by omega)] at hwe
  rw [hwe, if_pos rfl, if_pos rfl]
  conv => whnf
  refine ⟨fits_small (by rw [List.length_map]; simp only [List.length_nil]; omega) (by decide), ?_⟩
  conv => whnf
  refine AW.loop (fun k : Nat => [(.tmp 1, .v (.int .i64 at_)), (.tmp 3, .v (.ptr 0 0)), (.tmp 6, .v (.ptr 1 0)), (.tmp 7, .v (.int .i64 0)), (.tmp 9, .v (.str (Gw.Disk.pad s))), (.tmp 10, .v (.int .i64 (Gw.Disk.manyOf s))), (.tmp 11, .v (.lst false 2 ((loose ++ Gw.Disk.wrote at_ s k).map encP) (.row 38))), (.tmp 12, .v (.int .i64 k)),
    (.row 38, .row 58 2 (loose.length + k)), (.blk 0, .box 25 [.int .i64 size, .str firm.data.toList, .lst nil 2 (loose.map encP) .none]), (.blk 1, .box 25 [.int .i64 0, .str [], .lst true 1 [] .tight])]) 39 (fun k => k ≤ Gw.Disk.manyOf s) (fun k => Gw.Disk.manyOf s - k) (by decide) 0 (Nat.zero_le _)
    ⟨rfl, rfl, rfl, rfl, rfl, rfl, rfl, rfl, ?_, rfl, ?_, rfl, ?_, rfl, rfl, rfl, ?_, rfl, rfl, rfl, rfl, rfl, trivial⟩ ?_
  · show C.v (V.str (s.data.toList ++ List.replicate ((Gw.Disk.manyOf s * 16 - s.data.toList.length : Nat) : Int).toNat 0)) = _
    rw [hpd]
  · show C.v (V.int .i64 (Gw.Disk.manyOf s : Int)) = _
    rfl
  · show C.v (V.lst _ 2 ([] ++ loose.map encP) _) = _
    simp [Gw.Disk.wrote]
  · show C.row _ 2 ([].length + (loose.map encP).length) = _
    rw [List.length_map, List.length_nil]; simp
  rintro k hk
  refine ev_sound tabOk mixed _ _ _ _ ?_
  conv => whnf
  refine ⟨fun h5 => ?_, fun h5 => ?_⟩
  · have h5 := of_decide_eq_true h5
    have hlt : k < Gw.Disk.manyOf s := by omega
    have hws := Gw.Disk.wrote_succ at_ s k
    have hwl := Gw.Disk.wrote_length at_ s k
    have w3 : IntKind.i64.wrap (at_ + (k : Int)) = at_ + (k : Int) := w64 (by omega) (by omega)
    have w5 : IntKind.i64.wrap (16 * (k : Int)) = 16 * (k : Int) := w64 (by omega) (by omega)
    have w6 : IntKind.i64.wrap (16 * (k : Int) + 16) = 16 * (k : Int) + 16 := w64 (by omega) (by omega)
    conv => whnf
    rw [w5, w6]
    refine ⟨by omega, ?_⟩
    have hlm : ((loose ++ Gw.Disk.wrote at_ s k).map encP).length = loose.length + k := by rw [List.length_map, List.length_append, hwl]
    conv => whnf
    refine ⟨⟨by rw [hlm], fits_small (by rw [hlm]; simp only [List.length_cons, List.length_nil]; omega) (by decide)⟩, ?_⟩
    conv => whnf
    refine ⟨k + 1, by show k + 1 ≤ _; omega, by show _ - (k + 1) < _ - k; omega, rfl, rfl, rfl, rfl, rfl, rfl, rfl, rfl, rfl, rfl, rfl, rfl, ?_, rfl, ?_, rfl, ?_, rfl, rfl, rfl, rfl, rfl, trivial⟩
    · show C.v (V.lst _ 2 ((loose ++ Gw.Disk.wrote at_ s k).map encP ++ [[.int .i64 (IntKind.i64.wrap (at_ + (k : Int))), .str (((Gw.Disk.pad s).take (16 * (k : Int) + 16).toNat).drop (16 * (k : Int)).toNat)]]) _) = _
      rw [w3, hws, ← List.append_assoc, List.map_append (l₁ := loose ++ _), show (16 * (k : Int) + 16).toNat = k * 16 + 16 by omega, show (16 * (k : Int)).toNat = k * 16 by omega, List.drop_take, show k * 16 + 16 - k * 16 = 16 by omega]
      rfl
    · show C.v (V.int .i64 (IntKind.i64.wrap ((k : Int) + 1))) = _
      rw [w64 (by omega) (by omega)]; rfl
    · show C.row _ 2 (((loose ++ Gw.Disk.wrote at_ s k).map encP).length + 1) = _
      rw [hlm]; rfl
  · have h5 := of_decide_eq_false h5
    obtain rfl : k = Gw.Disk.manyOf s := by omega
    conv => whnf
    exact SubV.refl _
end Go.Proofs.YtjhblbipjljojaaDoor
