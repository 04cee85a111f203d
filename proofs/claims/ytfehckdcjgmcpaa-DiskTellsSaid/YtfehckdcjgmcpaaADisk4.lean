/- What cut and Write of the package disk compute. No claim of its own. -/
import Derived.Test.YtfehckdcjgmcpaaADisk3
namespace Go.Proofs.Ytfehckdcjgmcpaa
open Go.Am

theorem oneAll_bytes : ∀ (s : List UInt8), oneAll (bytesV s) = true
  | [] => rfl
  | _ :: s => oneAll_bytes s
theorem bytesV_flat (n : Nat) (f : Nat → List UInt8) : ((List.range n).map fun i => bytesV (f i)).flatten = bytesV (Gw.Disk.flat n f) := by
  unfold Gw.Disk.flat bytesV
  rw [List.map_flatMap]
  rfl
theorem repl_zero16 (n : Nat) : repl n (repl 16 [V.int .u8 0]) = bytesV (List.replicate (n * 16) 0) := by
  rw [repl_bytes]
  unfold repl bytesV
  induction n with
  | zero => rfl
  | succ n ih =>
    rw [List.replicate_succ, List.flatten_cons, ih, show (n + 1) * 16 = 16 + n * 16 by omega, ← List.replicate_append_replicate, List.map_append]

def encC (s : ByteArray) : List (List V) := (List.range (Gw.Disk.manyOf s)).map fun i => bytesV (((Gw.Disk.pad s).drop (i * 16)).take 16)

theorem cut_pc (s : ByteArray) (hs : s.size ≤ 1048576) : PC Try.prog 27 [.str s.data.toList] (.lst false 16 (encC s) .none) := by
  have hsl : s.data.toList.length = s.size := rfl
  have hm : (s.data.toList.length + 15) / 16 = Gw.Disk.manyOf s := rfl
  have hmy := many_pc s.data.toList (by omega)
  rw [hm] at hmy
  have hmb : Gw.Disk.manyOf s ≤ 65537 := by unfold Gw.Disk.manyOf; omega
  refine PC.of tabOk mixed (fn := Try.f27) (by kernel_rfl) rfl (by kernel_rfl) rfl rfl ?_
  conv => whnf
  refine AC.of_pc hmy rfl ?_
  conv => whnf
  refine ⟨⟨by omega, rfl, fits_small (by rw [Int.toNat_natCast]; omega) (by decide)⟩, ?_⟩
  conv => whnf
  refine AW.loop (fun k : Nat => [(.tmp 0, .v (.str s.data.toList)), (.tmp 3, .v (.own 2 0 16 (Gw.Disk.manyOf s) true)), (.tmp 9, .v (.int .i64 (Gw.Disk.manyOf s))), (.tmp 10, .v (.int .i64 k)),
    (.blk 2, .mem 49 (bytesV (Gw.Disk.padTo s k)))]) 3 (fun k => k ≤ Gw.Disk.manyOf s) (fun k => Gw.Disk.manyOf s - k) (by decide) 0 (Nat.zero_le _)
    ⟨rfl, rfl, ?_, rfl, ?_, rfl, rfl, rfl, ?_, rfl, trivial⟩ ?_
  · rfl
  · rfl
  · show C.mem _ (repl (Gw.Disk.manyOf s : Int).toNat (repl 16 [V.int .u8 0])) = _
    rw [repl_zero16, Gw.Disk.padTo_zero, Int.toNat_natCast]
  rintro k hk
  refine ev_sound tabOk mixed _ _ _ _ ?_
  conv => whnf
  refine ⟨fun h4 => ?_, fun h4 => ?_⟩
  · have h4 := of_decide_eq_true h4
    have hlt : k < Gw.Disk.manyOf s := by omega
    have hpl := Gw.Disk.padTo_length s k
    have hks : k * 16 < s.data.toList.length := by unfold Gw.Disk.manyOf at hlt; omega
    conv => whnf
    refine ⟨by omega, ?_⟩
    conv => whnf
    have w1 : IntKind.i64.wrap ((k : Int) * 16) = (k : Int) * 16 := w64 (by omega) (by omega)
    rw [w1]
    refine ⟨by omega, ?_⟩
    conv => whnf
    refine ⟨by rw [bytesV_len, hpl]; omega, ?_⟩
    conv => whnf
    refine ⟨by kernel_rfl, ?_⟩
    conv => whnf
    refine ⟨k + 1, by show k + 1 ≤ _; omega, by show _ - (k + 1) < _ - k; omega, rfl, rfl, rfl, rfl, rfl, rfl, ?_, rfl, ?_, rfl, trivial⟩
    · show C.v (V.int .i64 (IntKind.i64.wrap ((k : Int) + 1))) = _
      rw [w64 (by omega) (by omega)]; rfl
    · show C.mem _ ((bytesV (Gw.Disk.padTo s k)).take (0 + (k : Int).toNat * 16) ++ (bytesV (s.data.toList.drop ((k : Int) * 16).toNat)).take (min (s.data.toList.drop ((k : Int) * 16).toNat).length 16 * 1) ++ (bytesV (Gw.Disk.padTo s k)).drop (0 + (k : Int).toNat * 16 + min (s.data.toList.drop ((k : Int) * 16).toNat).length 16 * 1)) = _
      have e1 : 0 + (k : Int).toNat * 16 = k * 16 := by omega
      have e2 : ((k : Int) * 16).toNat = k * 16 := by omega
      rw [Gw.Disk.padTo_succ s k hlt, e1, e2, bytesV_append, bytesV_append]
      have e3 : min (s.data.toList.drop (k * 16)).length 16 * 1 = ((s.data.toList.drop (k * 16)).take 16).length := by rw [List.length_take]; omega
      rw [e3]
      have e4 : (bytesV (s.data.toList.drop (k * 16))).take ((s.data.toList.drop (k * 16)).take 16).length = bytesV ((s.data.toList.drop (k * 16)).take 16) := by
        rw [← bytesV_take]
        congr 1
        rw [List.length_take, ← List.take_take, List.take_length]
      rw [e4, ← bytesV_take, ← bytesV_drop]
  · have h4 := of_decide_eq_false h4
    obtain rfl : k = Gw.Disk.manyOf s := by omega
    conv => whnf
    have hpl := Gw.Disk.padTo_length s (Gw.Disk.manyOf s)
    rw [Gw.Disk.padTo_all] at hpl
    refine .mem (cells := bytesV (Gw.Disk.padTo s (Gw.Disk.manyOf s))) rfl ?_ ?_ ?_ ?_ ?_
    · simp [encC]
    · intro el hel
      obtain ⟨i, hi, rfl⟩ := List.mem_map.1 hel
      rw [bytesV_len, List.length_take, List.length_drop]
      have := List.mem_range.1 hi
      omega
    · rw [bytesV_len, Gw.Disk.padTo_all]; omega
    · rw [Gw.Disk.padTo_all, List.drop_zero, List.take_of_length_le (by rw [bytesV_len]; omega), encC, bytesV_flat, ← Gw.Disk.flat_of _ _ hpl]
    · rw [encC, bytesV_flat]; exact oneAll_bytes _
theorem list16 {l : List UInt8} (h : l.length = 16) : ∃ a0 a1 a2 a3 a4 a5 a6 a7 a8 a9 a10 a11 a12 a13 a14 a15, l = [a0, a1, a2, a3, a4, a5, a6, a7, a8, a9, a10, a11, a12, a13, a14, a15] := by
  match l, h with
  | [a0, a1, a2, a3, a4, a5, a6, a7, a8, a9, a10, a11, a12, a13, a14, a15], _ => exact ⟨a0, a1, a2, a3, a4, a5, a6, a7, a8, a9, a10, a11, a12, a13, a14, a15, rfl⟩

theorem write_pc (nil : Bool) (d : Gw.Disk.Disk) (at_ : Int) (s : ByteArray) (hn : nil = true → d.loose = []) (hsz : I64 d.size) (ha : I64 at_) (hl : d.loose.length ≤ 1048576) (hs : s.size ≤ 1048576) :
    PC Try.prog 12 [encD nil d, .int .i64 at_, .str s.data.toList] (.tup [encD (if Gw.Disk.writeErr d at_ s = 0 then false else nil) (Gw.Disk.write d at_ s), .int .i64 (Gw.Disk.writeErr d at_ s)]) := by
  have hck := check_pc nil d hsz hl
  have hsa := same_pc nil d hn (by omega)
  have hsp := fun hc => Gw.Disk.check_spec (d := d) hc
  have hcut := cut_pc s hs
  have hsl : s.data.toList.length = s.size := rfl
  have hmy := many_pc s.data.toList (by omega)
  rw [show (s.data.toList.length + 15) / 16 = Gw.Disk.manyOf s from rfl] at hmy
  have hmb : Gw.Disk.manyOf s ≤ 65537 := by unfold Gw.Disk.manyOf; omega
  have hwe : Gw.Disk.writeErr d at_ s = if Gw.Disk.check d = false ∨ at_ < 0 then 121 else if d.size - (Gw.Disk.manyOf s : Int) < at_ then 120 else 0 := rfl
  unfold I64 at ha
  unfold Gw.Disk.write
  generalize Gw.Disk.check d = q at hck hsp hwe
  obtain ⟨size, firm, loose⟩ := d
  simp only at hl
  refine PC.ofS tabOk mixed (fn := Try.f12) (by kernel_rfl) rfl (by kernel_rfl) rfl rfl ?_
  conv => whnf
  refine AC.of_pc hck rfl ?_
  conv => whnf
  refine ⟨fun h1 => ?_, fun h1 => ?_⟩
  · have h1 : q = false := by simpa using h1
    conv => whnf
    refine AC.of_pc hsa rfl ?_
    conv => whnf
    have e : Gw.Disk.writeErr ⟨size, firm, loose⟩ at_ s = 121 := by rw [hwe, if_pos (.inl h1)]
    rw [e, if_neg (by decide), if_neg (by decide)]
    exact SubV.refl _
  have h1 : q = true := by simpa using h1
  obtain ⟨z1, z2, z3, z4⟩ := hsp h1
  simp only at z1 z2 z3 z4 hwe
  conv => whnf
  refine ⟨fun h2 => ?_, fun h2 => ?_⟩
  · have h2 := of_decide_eq_true h2
    conv => whnf
    refine AC.of_pc hsa rfl ?_
    conv => whnf
    have e : Gw.Disk.writeErr ⟨size, firm, loose⟩ at_ s = 121 := by rw [hwe, if_pos (.inr h2)]
    rw [e, if_neg (by decide), if_neg (by decide)]
    exact SubV.refl _
  have h2 := of_decide_eq_false h2
  rw [if_neg (by rw [h1]; simp; omega)] at hwe
  conv => whnf
  refine ⟨_, rfl, hmy, ?_⟩
  have w1 : IntKind.i64.wrap (size - (Gw.Disk.manyOf s : Int)) = size - (Gw.Disk.manyOf s : Int) := w64 (by omega) (by omega)
  conv => whnf
  rw [w1]
  refine ⟨by kernel_rfl, ?_⟩
  conv => whnf
  refine ⟨fun h3 => ?_, fun h3 => ?_⟩
  · have h3 := of_decide_eq_true h3
    conv => whnf
    refine AC.of_pc hsa rfl ?_
    conv => whnf
    have e : Gw.Disk.writeErr ⟨size, firm, loose⟩ at_ s = 120 := by rw [hwe, if_pos h3]
    rw [e, if_neg (by decide), if_neg (by decide)]
    exact SubV.refl _
  have h3 := of_decide_eq_false h3
  rw [if_neg h3] at hwe
  rw [hwe, if_pos rfl, if_pos rfl]
  conv => whnf
  refine AC.of_pc hcut rfl ?_
  conv => whnf
  have hel0 : (encC s).length = Gw.Disk.manyOf s := by simp [encC]
  have w2 : IntKind.i64.wrap (((loose.map encP).length : Int) + ((encC s).length : Int)) = ((loose.length + Gw.Disk.manyOf s : Nat) : Int) := by
    rw [List.length_map, hel0, w64 (by omega) (by omega)]; omega
  rw [w2]
  refine ⟨⟨by omega, fits_small (by rw [Int.toNat_natCast]; omega) (by decide)⟩, ?_⟩
  conv => whnf
  refine ⟨⟨rfl, fits_small (by rw [List.length_map]; simp only [List.length_nil]; omega) (by decide)⟩, ?_⟩
  conv => whnf
  refine AW.loop (fun k : Nat => [(.tmp 1, .v (.int .i64 at_)), (.tmp 3, .v (.ptr 0 0)), (.tmp 6, .v (.ptr 1 0)), (.tmp 7, .v (.int .i64 0)), (.tmp 9, .v (.lst false 2 ((loose ++ Gw.Disk.wrote at_ s k).map encP) (.row 25))), (.tmp 43, .v (.lst false 16 (encC s) .none)), (.tmp 44, .v (.int .i64 (Gw.Disk.manyOf s))), (.tmp 45, .v (.int .i64 k)),
    (.row 25, .row 40 2 (loose.length + k)), (.blk 0, .box 24 [.int .i64 size, .str firm.data.toList, .lst nil 2 (loose.map encP) .none]), (.blk 1, .box 24 [.int .i64 0, .str [], .lst true 1 [] .tight])]) 26 (fun k => k ≤ Gw.Disk.manyOf s) (fun k => Gw.Disk.manyOf s - k) (by decide) 0 (Nat.zero_le _)
    ⟨rfl, rfl, rfl, rfl, rfl, rfl, rfl, rfl, ?_, rfl, rfl, rfl, ?_, rfl, rfl, rfl, ?_, rfl, rfl, rfl, rfl, rfl, trivial⟩ ?_
  · show C.v (V.lst _ 2 ([] ++ loose.map encP) _) = _
    simp [Gw.Disk.wrote]
  · show C.v (V.int .i64 ((encC s).length : Nat)) = _
    rw [hel0]
  · show C.row _ 2 ([].length + (loose.map encP).length) = _
    rw [List.length_map, List.length_nil]; simp
  rintro k hk
  refine ev_sound tabOk mixed _ _ _ _ ?_
  conv => whnf
  refine ⟨fun h4 => ?_, fun h4 => ?_⟩
  · have h4 := of_decide_eq_true h4
    have hlt : k < Gw.Disk.manyOf s := by omega
    have hws := Gw.Disk.wrote_succ at_ s k
    have hwl := Gw.Disk.wrote_length at_ s k
    have hpl : (((Gw.Disk.pad s).drop (k * 16)).take 16).length = 16 := by
      rw [List.length_take, List.length_drop, Gw.Disk.pad_length]; omega
    have hgc : (encC s)[(k : Int).toNat]? = some (bytesV (((Gw.Disk.pad s).drop (k * 16)).take 16)) := by
      rw [Int.toNat_natCast, encC, List.getElem?_map, List.getElem?_range hlt]; rfl
    generalize ((Gw.Disk.pad s).drop (k * 16)).take 16 = ch at hws hpl hgc
    obtain ⟨a0, a1, a2, a3, a4, a5, a6, a7, a8, a9, a10, a11, a12, a13, a14, a15, rfl⟩ := list16 hpl
    conv => whnf
    refine ⟨_, ⟨by omega, hgc⟩, ?_⟩
    conv => whnf
    refine ⟨[a0, a1, a2, a3, a4, a5, a6, a7, a8, a9, a10, a11, a12, a13, a14, a15], ⟨Nat.le_refl _, rfl⟩, ?_⟩
    have w3 : IntKind.i64.wrap (at_ + (k : Int)) = at_ + (k : Int) := w64 (by omega) (by omega)
    conv => whnf
    rw [w3]
    have hlm : ((loose ++ Gw.Disk.wrote at_ s k).map encP).length = loose.length + k := by rw [List.length_map, List.length_append, hwl]
    refine ⟨⟨by rw [hlm], fits_small (by rw [hlm]; simp only [List.length_cons, List.length_nil]; omega) (by decide)⟩, ?_⟩
    conv => whnf
    refine ⟨k + 1, by show k + 1 ≤ _; omega, by show _ - (k + 1) < _ - k; omega, rfl, rfl, rfl, rfl, rfl, rfl, rfl, rfl, ?_, rfl, rfl, rfl, rfl, rfl, ?_, rfl, ?_, rfl, rfl, rfl, rfl, rfl, trivial⟩
    · show C.v (V.lst _ 2 ((loose ++ Gw.Disk.wrote at_ s k).map encP ++ [[.int .i64 (at_ + (k : Int)), .str [a0, a1, a2, a3, a4, a5, a6, a7, a8, a9, a10, a11, a12, a13, a14, a15]]]) _) = _
      rw [hws, ← List.append_assoc, List.map_append (l₁ := loose ++ _)]
      rfl
    · show C.v (V.int .i64 (IntKind.i64.wrap ((k : Int) + 1))) = _
      rw [w64 (by omega) (by omega)]; rfl
    · show C.row _ 2 (((loose ++ Gw.Disk.wrote at_ s k).map encP).length + 1) = _
      rw [hlm]; rfl
  · have h4 := of_decide_eq_false h4
    obtain rfl : k = Gw.Disk.manyOf s := by omega
    conv => whnf
    exact SubV.refl _
end Go.Proofs.Ytfehckdcjgmcpaa
