/- What the functions of the package disk, and of its document's answer, compute: told without addresses. No claim of its own. -/
import Derived.Test.YtfehckdcjgmcpaaAmTab
import Derived.Test.YtfehckdcjgmcpaaDiskPlain
namespace Go.Proofs.Ytfehckdcjgmcpaa
open Go.Am

def encP (p : Int × ByteArray) : List V := [.int .i64 p.1, .str p.2.data.toList]
def encD (nil : Bool) (d : Gw.Disk.Disk) : V := .agg [.int .i64 d.size, .str d.firm.data.toList, .lst nil 2 (d.loose.map encP) .none]
def I64 (x : Int) : Prop := -9223372036854775808 ≤ x ∧ x ≤ 9223372036854775807

theorem encP_get {l : List (Int × ByteArray)} {k : Nat} (hk : k < l.length) : (l.map encP)[k]? = some (encP l[k]) := by rw [List.getElem?_map, List.getElem?_eq_getElem hk]; rfl

theorem many_pc (s : List UInt8) (hs : s.length ≤ 1048576) : PC Try.prog 26 [.str s] (.int .i64 ((s.length + 15) / 16 : Nat)) := by
  refine PC.of tabOk mixed (fn := Try.f26) (by kernel_rfl) rfl (by kernel_rfl) rfl rfl ?_
  conv => whnf
  rw [w64 (x := (s.length : Int) + 16) (by omega) (by omega), w64 (x := (s.length : Int) + 16 - 1) (by omega) (by omega), tdiv_pos (by omega), w64 (by omega) (by omega)]
  congr 1
  omega

theorem check_pc (nil : Bool) (d : Gw.Disk.Disk) (hsz : I64 d.size) (hl : d.loose.length ≤ 1048576) : PC Try.prog 16 [encD nil d] (.bool (Gw.Disk.check d)) := by
  obtain ⟨size, firm, loose⟩ := d
  have hsz : I64 size := hsz
  unfold I64 at hsz
  have hl : loose.length ≤ 1048576 := hl
  have hfs : firm.size = firm.data.toList.length := rfl
  show PC Try.prog _ [.agg [.int .i64 size, .str firm.data.toList, .lst nil 2 (loose.map encP) .none]] _
  refine PC.of tabOk mixed (fn := Try.f16) (by kernel_rfl) rfl (by kernel_rfl) rfl rfl ?_
  conv => whnf
  refine ⟨fun h1 => ?_, fun h1 => ?_⟩
  · conv => whnf
    have h1 := of_decide_eq_true h1
    rw [Gw.Disk.check, decide_eq_false (show ¬ 0 ≤ (Gw.Disk.Disk.mk size firm loose).size from (by omega : ¬ 0 ≤ size))]; rfl
  have h1 := of_decide_eq_false h1
  conv => whnf
  refine ⟨fun h2 => ?_, fun h2 => ?_⟩
  · conv => whnf
    have h2 := of_decide_eq_true h2
    rw [Gw.Disk.check, decide_eq_false (show ¬ (Gw.Disk.Disk.mk size firm loose).size ≤ 65536 from (by omega : ¬ size ≤ 65536))]; simp
  have h2 := of_decide_eq_false h2
  conv => whnf
  rw [w64 (x := size * 16) (by omega) (by omega)]
  refine ⟨fun h3 => ?_, fun h3 => ?_⟩
  · conv => whnf
    have h3 : ¬ ((firm.size : Int) = size * 16) := by rw [hfs]; simpa using h3
    rw [Gw.Disk.check, decide_eq_false (p := ((Gw.Disk.Disk.mk size firm loose).firm.size : Int) = _) h3]; simp
  have h3 : (firm.size : Int) = size * 16 := by rw [hfs]; simpa using h3
  conv => whnf
  have hchk : Gw.Disk.check ⟨size, firm, loose⟩ = loose.all (Gw.Disk.fits size) := by
    simp only [Gw.Disk.check]
    rw [decide_eq_true (by omega : 0 ≤ size), decide_eq_true (by omega : size ≤ 65536), decide_eq_true h3]; rfl
  rw [hchk]
  refine AW.loop (fun k : Nat => [(.tmp 1, .v (.ptr 0 0)), (.tmp 23, .v (.lst nil 2 (loose.map encP) .none)), (.tmp 24, .v (.int .i64 (loose.map encP).length)), (.tmp 25, .v (.int .i64 k)),
    (.blk 0, .box 24 [.int .i64 size, .str firm.data.toList, .lst nil 2 (loose.map encP) .none])]) 1 (fun k => k ≤ loose.length ∧ (loose.take k).all (Gw.Disk.fits size) = true) (fun k => loose.length - k) (by decide) 0 ⟨Nat.zero_le _, rfl⟩
    ⟨rfl, rfl, rfl, rfl, rfl, rfl, rfl, rfl, rfl, rfl, trivial⟩ ?_
  rintro k ⟨hk, hall⟩
  refine ev_sound tabOk mixed _ _ _ _ ?_
  conv => whnf
  refine ⟨fun h4 => ?_, fun h4 => ?_⟩
  · have h4 := of_decide_eq_true h4
    rw [List.length_map] at h4
    have hlt : k < loose.length := by omega
    have htk : loose.take (k + 1) = loose.take k ++ [loose[k]] := List.take_succ_eq_append_getElem hlt
    have hno : Gw.Disk.fits size loose[k] = false → loose.all (Gw.Disk.fits size) = false := fun h => by
      rw [List.all_eq_false]; exact ⟨_, List.getElem_mem hlt, by rw [h]; simp⟩
    obtain ⟨⟨at_, data⟩, hp⟩ : ∃ p, loose[k] = p := ⟨_, rfl⟩
    have hel : (loose.map encP)[k]? = some [.int .i64 at_, .str data.data.toList] := by rw [encP_get hlt, hp]; rfl
    rw [hp] at htk hno
    conv => whnf
    refine ⟨_, ⟨by omega, hel⟩, ?_⟩
    have hds : data.size = data.data.toList.length := rfl
    conv => whnf
    refine ⟨fun h5 => ?_, fun h5 => ?_⟩
    · conv => whnf
      have h5 := of_decide_eq_true h5
      rw [hno (by rw [Gw.Disk.fits, decide_eq_false (by simp only; omega : ¬ 0 ≤ (at_, data).1)]; rfl)]
    have h5 := of_decide_eq_false h5
    conv => whnf
    refine ⟨fun h6 => ?_, fun h6 => ?_⟩
    · conv => whnf
      have h6 := of_decide_eq_true h6
      rw [hno (by rw [Gw.Disk.fits, decide_eq_false (by simp only; omega : ¬ (at_, data).1 < size)]; simp)]
    have h6 := of_decide_eq_false h6
    conv => whnf
    refine ⟨fun h7 => ?_, fun h7 => ?_⟩
    · conv => whnf
      have h7 : ¬ data.size = 16 := by simp at h7; omega
      rw [hno (by rw [Gw.Disk.fits, decide_eq_false h7]; simp)]
    have h7 : data.size = 16 := by simp at h7; omega
    conv => whnf
    refine ⟨k + 1, ⟨by omega, ?_⟩, by show _ - (k + 1) < _ - k; omega, rfl, rfl, rfl, rfl, rfl, rfl, ?_, rfl, rfl, rfl, trivial⟩
    · rw [htk, List.all_append, hall]
      simp [Gw.Disk.fits, h7]; omega
    · show C.v (V.int .i64 (IntKind.i64.wrap ((k : Int) + 1))) = _
      rw [w64 (by omega) (by omega)]; rfl
  · have h4 := of_decide_eq_false h4
    rw [List.length_map] at h4
    conv => whnf
    have : loose.take k = loose := List.take_of_length_le (by omega)
    rw [this] at hall
    rw [hall]

theorem rcheck_pc (nil : Bool) (d : Gw.Disk.Disk) (hsz : I64 d.size) (hl : d.loose.length ≤ 1048576) (hf : d.size ≤ 65536) : PC Try.prog 17 [encD nil d] (.bool (Gw.Disk.check d)) := by
  obtain ⟨size, firm, loose⟩ := d
  have hsz : I64 size := hsz
  unfold I64 at hsz
  have hl : loose.length ≤ 1048576 := hl
  have hfs : firm.size = firm.data.toList.length := rfl
  show PC Try.prog _ [.agg [.int .i64 size, .str firm.data.toList, .lst nil 2 (loose.map encP) .none]] _
  refine PC.of tabOk mixed (fn := Try.f17) (by kernel_rfl) rfl (by kernel_rfl) rfl rfl ?_
  conv => whnf
  refine AW.loop (fun k : Nat => [(.tmp 1, .v (.ptr 0 0)), (.tmp 3, .v (.int .i64 k)),
    (.blk 0, .box 24 [.int .i64 size, .str firm.data.toList, .lst nil 2 (loose.map encP) .none])]) 1 (fun k => k ≤ loose.length ∧ (loose.take k).all (Gw.Disk.fits size) = true) (fun k => loose.length - k) (by decide) 0 ⟨Nat.zero_le _, rfl⟩
    ⟨rfl, rfl, rfl, rfl, rfl, rfl, trivial⟩ ?_
  rintro k ⟨hk, hall⟩
  refine ev_sound tabOk mixed _ _ _ _ ?_
  conv => whnf
  refine ⟨fun h4 => ?_, fun h4 => ?_⟩
  · have h4 := of_decide_eq_true h4
    rw [List.length_map] at h4
    have hlt : k < loose.length := by omega
    have htk : loose.take (k + 1) = loose.take k ++ [loose[k]] := List.take_succ_eq_append_getElem hlt
    have hno : Gw.Disk.fits size loose[k] = false → Gw.Disk.check ⟨size, firm, loose⟩ = false := fun h => by
      rw [Gw.Disk.check, List.all_eq_false.2 ⟨_, List.getElem_mem hlt, by rw [h]; simp⟩]; simp
    obtain ⟨⟨at_, data⟩, hp⟩ : ∃ p, loose[k] = p := ⟨_, rfl⟩
    have hel : (loose.map encP)[k]? = some [.int .i64 at_, .str data.data.toList] := by rw [encP_get hlt, hp]; rfl
    rw [hp] at htk hno
    conv => whnf
    refine ⟨_, ⟨by omega, hel⟩, ?_⟩
    have hds : data.size = data.data.toList.length := rfl
    conv => whnf
    refine ⟨fun h5 => ?_, fun h5 => ?_⟩
    · have h5 := of_decide_eq_true h5
      conv => whnf
      refine ⟨by kernel_rfl, ?_⟩
      conv => whnf
      rw [hno (by rw [Gw.Disk.fits, decide_eq_false (by simp only; omega : ¬ 0 ≤ (at_, data).1)]; rfl)]
    have h5 := of_decide_eq_false h5
    conv => whnf
    refine ⟨_, ⟨by omega, hel⟩, ?_⟩
    conv => whnf
    refine ⟨fun h6 => ?_, fun h6 => ?_⟩
    · have h6 := of_decide_eq_true h6
      conv => whnf
      refine ⟨by kernel_rfl, ?_⟩
      conv => whnf
      rw [hno (by rw [Gw.Disk.fits, decide_eq_false (by simp only; omega : ¬ (at_, data).1 < size)]; simp)]
    have h6 := of_decide_eq_false h6
    conv => whnf
    refine ⟨_, ⟨by omega, hel⟩, ?_⟩
    conv => whnf
    refine ⟨by kernel_rfl, ?_⟩
    conv => whnf
    refine ⟨fun h7 => ?_, fun h7 => ?_⟩
    · have h7 : ¬ data.size = 16 := by simp at h7; omega
      conv => whnf
      rw [hno (by rw [Gw.Disk.fits, decide_eq_false h7]; simp)]
    have h7 : data.size = 16 := by simp at h7; omega
    conv => whnf
    refine ⟨k + 1, ⟨by omega, ?_⟩, by show _ - (k + 1) < _ - k; omega, rfl, rfl, ?_, rfl, rfl, rfl, trivial⟩
    · rw [htk, List.all_append, hall]
      simp [Gw.Disk.fits, h7]; omega
    · show C.v (V.int .i64 (IntKind.i64.wrap ((k : Int) + 1))) = _
      rw [w64 (by omega) (by omega)]; rfl
  · have h4 := of_decide_eq_false h4
    rw [List.length_map] at h4
    have hk' : loose.take k = loose := List.take_of_length_le (by omega)
    rw [hk'] at hall
    have hchk : Gw.Disk.check ⟨size, firm, loose⟩ = (decide (0 ≤ size) && (decide (size ≤ 65536) && decide ((firm.size : Int) = size * 16))) := by rw [Gw.Disk.check, hall, Bool.and_true]
    rw [hchk]
    conv => whnf
    refine ⟨fun h5 => ?_, fun h5 => ?_⟩
    · conv => whnf
      refine ⟨fun h6 => ?_, fun h6 => ?_⟩
      · have h5 := of_decide_eq_true h5
        have h6 := of_decide_eq_true h6
        conv => whnf
        rw [w64 (x := 16 * size) (by omega) (by omega), decide_eq_true h5, decide_eq_true h6, Bool.true_and, Bool.true_and]
        congr 1
        rw [hfs]
        exact decide_eq_decide.2 (by omega)
      · conv => whnf
        rw [h5, h6]; rfl
    · conv => whnf
      rw [h5]; rfl
end Go.Proofs.Ytfehckdcjgmcpaa
