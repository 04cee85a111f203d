/- What is seen by a name, and at a path: told without addresses. No claim of its own. -/
import Derived.Test.YtkflmicpifohhaaASeen
import Derived.Test.YtkflmicpifohhaaViewLaw
namespace Go.Proofs.Ytkflmicpifohhaa
open Go.Am

def idOf (r : Option Gw.Tree.Node) : Int := (r.map (·.id)).getD 0
theorem child_pc (nil : Bool) (l : List Gw.Tree.Node) (dir : Int) (s : List UInt8) (hi : ∀ n ∈ l, I64 n.id) (hl : l.length ≤ 1048576) :
    PC Try.prog 19 [.lst nil 8 (encN l) .none, .int .i64 dir, .str s] (.tup [.int .i64 (idOf (Gw.View.child l dir s)), .bool (Gw.View.child l dir s).isSome]) := by
  have hck := treeCheck_pc nil l hi hl
  have hsn := seen_ac nil l dir hl
  unfold Gw.View.child
  refine PC.of tabOk mixed (fn := Try.f19) (by kernel_rfl) rfl (by kernel_rfl) rfl rfl ?_
  conv => whnf
  refine AC.of_pc hck rfl ?_
  cases Gw.Tree.check l with
  | false =>
    conv => whnf
    repeat (first | refine ⟨fun _ => ?_, fun h => absurd h (by decide)⟩ | refine ⟨fun h => absurd h (by decide), fun _ => ?_⟩ | refine ⟨fun _ => ?_, fun h => absurd (show true = false from h) (by decide)⟩ | refine ⟨fun h => absurd (show false = true from h) (by decide), fun _ => ?_⟩
            (conv => whnf))
    rfl
  | true =>
    rw [if_pos rfl]
    conv => whnf
    repeat (first | refine ⟨fun _ => ?_, fun h => absurd h (by decide)⟩ | refine ⟨fun h => absurd h (by decide), fun _ => ?_⟩ | refine ⟨fun _ => ?_, fun h => absurd (show true = false from h) (by decide)⟩ | refine ⟨fun h => absurd (show false = true from h) (by decide), fun _ => ?_⟩
            (conv => whnf))
    refine AC.frame (es := []) trivial rfl (Nat.zero_le _) rfl hsn ?_
    rintro x es ⟨rfl, rfl⟩
    generalize Gw.View.seen l dir = S
    conv => whnf
    refine AM.lookup tabOk (kt := 9) (et := 43) (d := .string) (by kernel_rfl) (by kernel_rfl) rfl rfl (by kernel_rfl) rfl rfl (.inl rfl) rfl (encM_kind _) ((Gw.View.findM s S.2).map fun n => .agg (cellsN n)) (findE_enc s S.2) ?_
    cases hfm : Gw.View.findM s S.2 with
    | none =>
      rw [Option.map_none]
      conv => whnf
      rfl
    | some nd =>
      rw [Option.map_some]
      conv => whnf
      rfl
def encS1 (l : List (List UInt8)) : List (List V) := l.map fun t => [.str t]
theorem encS1_len (l : List (List UInt8)) : (encS1 l).length = l.length := by simp [encS1]
theorem encS1_get {l : List (List UInt8)} {k : Nat} (h : k < l.length) : (encS1 l)[k]? = some [.str l[k]] := by unfold encS1; rw [List.getElem?_map, List.getElem?_eq_getElem h]; rfl
theorem vFind_pc (nil n2 : Bool) (l : List Gw.Tree.Node) (names : List (List UInt8)) (hi : ∀ n ∈ l, I64 n.id) (hl : l.length ≤ 1048576) (hn : names.length ≤ 1048576) :
    PC Try.prog 17 [.lst nil 8 (encN l) .none, .lst n2 1 (encS1 names) .none] (.tup [.int .i64 (Gw.View.find l names).1, .int .i64 (Gw.View.find l names).2]) := by
  have hel := encS1_len names
  refine PC.of tabOk mixed (fn := Try.f17) (by kernel_rfl) rfl (by kernel_rfl) rfl rfl ?_
  conv => whnf
  refine AW.loop (X := Nat × Int) (fun x => [(.tmp 0, .v (.lst nil 8 (encN l) .none)), (.tmp 11, .v (.lst n2 1 (encS1 names) .none)), (.tmp 12, .v (.int .i64 names.length)), (.tmp 13, .v (.int .i64 x.1)), (.tmp 6, .v (.int .i64 x.2))]) 0
    (fun x => x.1 ≤ names.length ∧ I64 x.2 ∧ Gw.View.find l names = Gw.View.findF l x.2 (names.drop x.1)) (fun x => names.length - x.1) (by decide) (0, 0) ⟨Nat.zero_le _, by unfold I64; decide, rfl⟩ ⟨rfl, rfl, rfl, rfl, ?_, rfl, rfl, rfl, rfl, rfl, trivial⟩ ?_
  · show C.v (V.int .i64 (encS1 names).length) = _
    rw [hel]
  rintro ⟨k, at_⟩ ⟨h1, h2, h3⟩
  simp only at h1 h2 h3
  dsimp only
  have hdr := dir_pc at_ h2
  refine ev_sound tabOk mixed _ _ _ _ ?_
  conv => whnf
  refine ⟨fun h => ?_, fun h => ?_⟩
  · have h := of_decide_eq_true h
    have hlt : k < names.length := by omega
    have hg := encS1_get hlt
    have hch := child_pc nil l at_ names[k] hi hl
    rw [List.drop_eq_getElem_cons hlt, Gw.View.findF] at h3
    conv => whnf
    refine ⟨_, ⟨by omega, hg⟩, ?_⟩
    conv => whnf
    refine AC.of_pc hdr rfl ?_
    cases hd : Gw.Stamp.dir at_ with
    | false =>
      rw [hd, if_neg (by decide)] at h3
      rw [h3]
      conv => whnf
      repeat (first | refine ⟨fun _ => ?_, fun h => absurd h (by decide)⟩ | refine ⟨fun h => absurd h (by decide), fun _ => ?_⟩ | refine ⟨fun _ => ?_, fun h => absurd (show true = false from h) (by decide)⟩ | refine ⟨fun h => absurd (show false = true from h) (by decide), fun _ => ?_⟩
              (conv => whnf))
    | true =>
      rw [hd, if_pos rfl] at h3
      conv => whnf
      repeat (first | refine ⟨fun _ => ?_, fun h => absurd h (by decide)⟩ | refine ⟨fun h => absurd h (by decide), fun _ => ?_⟩ | refine ⟨fun _ => ?_, fun h => absurd (show true = false from h) (by decide)⟩ | refine ⟨fun h => absurd (show false = true from h) (by decide), fun _ => ?_⟩
              (conv => whnf))
      refine AC.of_pc hch rfl ?_
      cases hc : Gw.View.child l at_ names[k] with
      | none =>
        rw [hc] at h3
        simp only at h3
        rw [h3]
        conv => whnf
        repeat (first | refine ⟨fun _ => ?_, fun h => absurd h (by decide)⟩ | refine ⟨fun h => absurd h (by decide), fun _ => ?_⟩ | refine ⟨fun _ => ?_, fun h => absurd (show true = false from h) (by decide)⟩ | refine ⟨fun h => absurd (show false = true from h) (by decide), fun _ => ?_⟩
                (conv => whnf))
      | some nd =>
        have hmem := hi nd (Gw.View.child_mem hc).1
        rw [hc] at h3
        simp only at h3
        rw [show (some nd).isSome = true from rfl, show idOf (some nd) = nd.id from rfl]
        conv => whnf
        repeat (first | refine ⟨fun _ => ?_, fun h => absurd h (by decide)⟩ | refine ⟨fun h => absurd h (by decide), fun _ => ?_⟩ | refine ⟨fun _ => ?_, fun h => absurd (show true = false from h) (by decide)⟩ | refine ⟨fun h => absurd (show false = true from h) (by decide), fun _ => ?_⟩
                (conv => whnf))
        refine ⟨(k + 1, nd.id), ⟨hlt, hmem, h3⟩, by show names.length - (k + 1) < names.length - k; omega, rfl, rfl, rfl, rfl, rfl, rfl, ?_, rfl, rfl, rfl, trivial⟩
        show C.v (V.int .i64 (IntKind.i64.wrap ((k : Int) + 1))) = _
        rw [w64 (by omega) (by omega)]; rfl
  · have h := of_decide_eq_false h
    rw [List.drop_of_length_le (by omega), Gw.View.findF] at h3
    rw [h3]
    conv => whnf
end Go.Proofs.Ytkflmicpifohhaa
