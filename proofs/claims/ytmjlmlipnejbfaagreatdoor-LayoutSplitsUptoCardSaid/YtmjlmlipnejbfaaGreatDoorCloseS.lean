/-
  The law of splits as a card: for every input of bounded bulk the law returns true and leaves its arguments as they were.
-/
import Derived.Test.YtmjlmlipnejbfaaGreatDoorReadL
import Derived.Test.YtmjlmlipnejbfaaGreatDoorLH31
import Derived.Test.YtmjlmlipnejbfaaGreatDoorCards
import Derived.Test.YtmjlmlipnejbfaaGreatDoorTie
import Derived.Deep.DeepWitnessRowRef
import Derived.JoinedCond
import Derived.Lib.LaidIn
set_option linter.all false
namespace Go.LH.Ty
open Go.Proofs

end Go.LH.Ty
namespace Go.Proofs.YtmjlmlipnejbfaaGreatDoor.splits
open Go.LH Go.LH.Plan Go.ChangeShapes Go.RowKit Go.Lib
/-- A listed variable's cells. -/
def litV : Lit → Value
  | .int k n => .int k n
  | .bool b => .bool b
  | .string bs => .string ⟨bs.toArray⟩
  | .float k b => .float k b
  | _ => .nilIface
def dataCells : DataW Unit → List Value
  | .agg ds => ds.map fun d => match d with | .lit l => litV l | _ => .nilIface
  | .lit l => [litV l]
  | _ => []
theorem own : ownKnob Tryz.prog.godebug = none := by kernel_rfl
noncomputable def laidWorld (os : Os) : World :=
  let N := (World.settled Tryz.prog os).heap.size
  let w0 := World.holding Tryz.prog os ⟨#[.cells #[.string ⟨#[118, 97, 108, 117, 101, 32, 111, 117, 116, 32, 111, 102, 32, 114, 97, 110, 103, 101]⟩] 160, .cells #[.string ⟨#[105, 110, 118, 97, 108, 105, 100, 32, 115, 121, 110, 116, 97, 120]⟩] 160], #[], []⟩
  let put (h : Array Obj) (g : Nat) (cs : Array Value) : Array Obj := h.modify g fun
    | .cells _ t frozen => .cells cs t frozen
    | o => o
  let h1 := put w0.heap 4 (dataCells Rows.laid_math_bits_deBruijn32tab).toArray
  let h2 := put h1 5 (dataCells Rows.laid_math_bits_deBruijn64tab).toArray
  let h3 := put h2 3 (dataCells Rows.laid_internal_strconv_uint64pow10).toArray
  let h4 := put h3 2 #[.iface 158 (.pointer (some ⟨N, 0, none⟩))]
  let h5 := put h4 1 #[.iface 158 (.pointer (some ⟨N + 1, 0, none⟩))]
  { w0 with heap := h5 }
noncomputable abbrev N0 : Nat := (World.settled Tryz.prog default).heap.size
@[reducible] def wArgs : Array Value := #[.slice none 0 0, .bool false, .agg #[.int .i64 0, .int .i64 0, .int .i64 0, .int .i64 0]]
set_option maxRecDepth 1000000 in
theorem laid_met (os : Os) : laidMet Tryz.prog Rows.layoutSplitsUptoRow.laid ((laidWorld os).forCall (fun _ _ => 0) ⟨#[], wArgs, []⟩).memory :=
  (LaidIn.of_run (l := Rows.layoutSplitsUptoRow.laid) [4, 5, 3, 2, N0, 1, N0 + 1] 8 (by kernel_rfl) (by kernel_rfl) (by kernel_rfl) (by kernel_rfl)).met
set_option maxRecDepth 1000000 in
theorem witness_row (os : Os) {H : Type} (enc : TypeId × Value → H) :
    (Rows.OpenSpec.upto Rows.layoutSplitsSpec).preRow enc Tryz.prog Tryz.f3 Rows.layoutSplitsUptoRow.domain false Rows.layoutSplitsUptoRow.laid ((laidWorld os).forCall (fun _ _ => 0) ⟨#[], wArgs, []⟩).memory wArgs := by
  have hw : (DataW.whole enc Tryz.prog ((laidWorld os).forCall (fun _ _ => 0) ⟨#[], wArgs, []⟩).memory Tryz.f3.params.toList Rows.layoutSplitsSpec.vars false wArgs.toList 8).map (fun x => (x.1, x.2.1)) =
      some ([.nil, .lit (.bool false), .agg [.lit (.int .i64 0), .lit (.int .i64 0), .lit (.int .i64 0), .lit (.int .i64 0)]], []) := by kernel_rfl
  obtain ⟨⟨x1, x2, x3⟩, hx, hx1⟩ := Option.map_eq_some_iff.1 hw
  simp only [Prod.mk.injEq] at hx1
  obtain ⟨rfl, rfl⟩ := hx1
  exact OpenSpec.preRow_of_cond 8 hx (by kernel_rfl) (fun k hk => by cases hk; kernel_rfl) (by kernel_rfl) (laid_met os)
theorem laid_out : laidOutB Tryz.prog = true := by kernel_rfl
theorem rows : rowsB Tryz.prog = true := by kernel_rfl
theorem un_rect : Tryz.prog.underlying 24 = some (.struct (match Tryz.prog.underlying 24 with | some (.struct fs) => fs | _ => #[])) := by kernel_rfl
theorem fs_rect : (match Tryz.prog.underlying 24 with | some (.struct fs) => fs | _ => #[]).toList.map (fun f : Field => (f.type, f.offset)) = [(3, 0), (3, 1), (3, 2), (3, 3)] := by kernel_rfl
theorem cells_rect : Tryz.prog.cellsOf 24 = 4 := by kernel_rfl
set_option maxRecDepth 100000 in
theorem read_rect {E : Type} {enc : TypeId × Value → E} {hd : Bool} {w : World} {sp : Nat → Bool} {n : Nat} {us : List Value} {x : DataW E × List MemPlace} (h : DataW.trod enc Tryz.prog w 0 sp hd n 24 us = some x) : ∃ r : Go.LH.Rect.Rect, us = Go.LH.Cut.rcells r := by
  obtain ⟨h1, k, xs, rfl, h2, -⟩ := trod_struct un_rect h
  rw [cells_rect] at h1
  have hf := fields_at fs_rect h2
  match us, h1 with
  | [a, b, c, d], _ =>
    obtain ⟨x0, q0, -⟩ := hf 0 _ _ rfl
    obtain ⟨x1, q1, -⟩ := hf 1 _ _ rfl
    obtain ⟨x2, q2, -⟩ := hf 2 _ _ rfl
    obtain ⟨x3, q3, -⟩ := hf 3 _ _ rfl
    obtain ⟨k0, e0⟩ := read_int (v := a) rfl q0
    obtain ⟨k1, e1⟩ := read_int (v := b) rfl q1
    obtain ⟨k2, e2⟩ := read_int (v := c) rfl q2
    obtain ⟨k3, e3⟩ := read_int (v := d) rfl q3
    exact ⟨⟨k0, k1, k2, k3⟩, by rw [e0, e1, e2, e3]; rfl⟩
theorem bulk_len {H : Type} : ∀ l : List (DataW H), l.length ≤ Rows.uptoBulkAll l
  | [] => by simp [Rows.uptoBulkAll]
  | d :: l => by
    have h1 := bulk_len l
    have h2 : 1 ≤ Rows.uptoBulk d := by
      cases d with
      | lit l => cases l <;> simp [Rows.uptoBulk]
      | _ => simp [Rows.uptoBulk]
    simp only [Rows.uptoBulkAll, List.length_cons]; omega
set_option maxRecDepth 100000 in
theorem contract (H : Type) (enc : TypeId × Value → H) (W : World) (base : Nat) (args : Array Value) (ds gs : List (DataW H)) (before : List MemPlace)
    (hval : ∀ (j : Nat) t v, Tryz.f3.params[j]? = some t → args[j]? = some v → Value.okWide Tryz.prog W .any base t v)
    (hW : DataW.Whole enc Tryz.prog Tryz.f3.params.toList Rows.layoutSplitsSpec.vars false W args.toList ds gs before) (hk : Rows.uptoSmall H (ds ++ gs) = true) (hsh : W.ShapedOpen Tryz.prog) :
    Calls Tryz.prog 3 args W fun e W' => ∃ v, e = .returned v ∧ Rows.layoutSplitsSpec.post enc Tryz.prog Tryz.f3 false true false false W args v W' := by
  have hW' := hW
  obtain ⟨p, q, hA0, hV, rfl, hfz, hnd⟩ := hW
  have hA : DataW.TrodAll enc Tryz.prog W 0 (fun _ => true) true [22, 4, 24] args.toList ds p := hA0
  have hval' : ∀ (j : Nat) t v, [22, 4, 24][j]? = some t → args[j]? = some v → Value.okWide Tryz.prog W .any base t v := fun j t v h1 h2 => hval j t v (by simpa using h1) h2
  obtain ⟨v0, vs0, d0, ds0, p0, q0, hargs, rfl, rfl, ⟨n0, h0⟩, r0⟩ := trodAll_cons hA
  obtain ⟨v1, vs1, d1, ds1, p1, q1, rfl, rfl, rfl, ⟨n1, h1⟩, r1⟩ := trodAll_cons r0
  obtain ⟨v2, vs2, d2, ds2, p2, q2, rfl, rfl, rfl, ⟨n2, h2⟩, r2⟩ := trodAll_cons r1
  obtain ⟨rfl, rfl, rfl⟩ := trodAll_nil r2
  obtain rfl : args = #[v0, v1, v2] := by cases args; simp_all
  have hgl := globals_there rows hsh
  obtain ⟨hR0, hro0⟩ := R.start (P := Tryz.prog) (w := W) hgl
  have hpos : 0 < W.heap.size := Nat.lt_of_lt_of_le (show 0 < (Tryz.prog).globals.size from of_decide_eq_true (by kernel_rfl)) hgl
  obtain ⟨a0, k0, c0, rfl⟩ := okWide_slice (e := 27) (by kernel_rfl) (hval' 0 _ v0 rfl rfl)
  obtain ⟨b1, rfl⟩ := okWide_bool (by kernel_rfl) (hval' 1 _ v1 rfl rfl)
  obtain ⟨cs2, rfl⟩ := okWide_struct un_rect (hval' 2 _ v2 rfl rfl)
  obtain ⟨m', H', b, i, k, c, sizes, v, hv, r1', r2', r3', r4', r5', r6'⟩ := read_sizes hR0 hro0 hpos h0
  obtain ⟨r, hr⟩ := read_rect h2
  obtain rfl : v = Value.slice a0 k0 c0 := by simpa [Value.cells] using hv.symm
  have hcs : (Value.agg cs2) = Go.LH.Rect.rv r := by
    have e1 : cs2.toList = Go.LH.Cut.rcells r := hr
    have e2 : cs2 = (Go.LH.Cut.rcells r).toArray := by rw [← e1]
    rw [e2]; rfl
  have hbig : sizes.length ≤ 1048576 := by
    have hb : Rows.uptoBulkAll ((d0 :: [d1, d2]) ++ gs) ≤ 1048576 := of_decide_eq_true hk
    simp only [List.cons_append, Rows.uptoBulkAll] at hb
    rcases r6' with ⟨-, rfl⟩ | ⟨es, rs, hx, hl⟩
    · simp
    · have hx' : d0 = .slice es rs := hx
      rw [hx'] at hb
      simp only [Rows.uptoBulk] at hb
      have := bulk_len es
      omega
  rw [hcs] at hW' ⊢
  refine (law_calls (args := [slV b i k c, .bool b1, Go.LH.Rect.rv r]) Tryz.func3 rfl (by kernel_rfl) (fun K hK => Splits_spec sizes b i k c b1 r H' r5' hbig K hK) ?_ r1' r2').mono ?_
  · exact .cons _ _ _ _ r4' (.cons _ _ _ _ (.bool _) (.cons _ _ _ _ (.agg _ _ (.cons _ _ _ _ (.int _ _) (.cons _ _ _ _ (.int _ _) (.cons _ _ _ _ (.int _ _) (.cons _ _ _ _ (.int _ _) .nil))))) .nil))
  · rintro e W' ⟨rfl, hb⟩
    refine ⟨_, rfl, law_post (tb := 4) laid_out ?_ rfl (by kernel_rfl) rfl ?_ hW' hb⟩
    · intro t ht
      have ht' : t ∈ [22, 4, 24] := ht
      simp at ht'
      rcases ht' with rfl | rfl | rfl <;> exact ⟨by kernel_rfl, of_decide_eq_true (by kernel_rfl)⟩
    · obtain ⟨rfl, -⟩ := trodVars_none hV
      rfl
set_option maxRecDepth 100000 in
set_option maxHeartbeats 2000000 in
theorem lifted (os : Os) (started : os.Started) (H : Type) (enc : TypeId × Value → H) (F : Stop.Interp) :
    ReturnsInHanded {} Tryz.checked os 3 .any ((Rows.OpenSpec.upto Rows.layoutSplitsSpec).preRow enc Tryz.prog Tryz.f3 Rows.layoutSplitsUptoRow.domain false Rows.layoutSplitsUptoRow.laid) (((Rows.OpenSpec.upto Rows.layoutSplitsSpec).at F).post enc Tryz.prog Tryz.f3 false true false false) := by
  refine returnsInHanded_of_row (C := Tryz.checked) (s := Rows.OpenSpec.upto Rows.layoutSplitsSpec) own started (by kernel_rfl) Tryz.func3
    (witness_row_atRef (enc := enc) (C := Tryz.checked) false (laidWorld os) wArgs rfl (by kernel_rfl) (by kernel_rfl) (by kernel_rfl) (witness_row os enc)) ?_
  intro W base args ds gs before hval hW _ hcond _ hL hsh _
  exact contract H enc W base args ds gs before hval hW (hcond _ rfl) hsh
set_option maxRecDepth 100000 in
theorem saidUpto : Rows.LayoutSplitsUptoSaid :=
  OpenClaim.holds_of_cond 3 Tryz.f3 rfl rfl rfl rfl rfl rfl rfl ⟨rfl, rfl, rfl, rfl, rfl⟩ rfl rfl rfl rfl rfl (by kernel_rfl) Tryz.func3 (by kernel_rfl)
    (of_decide_eq_true (by kernel_rfl)) (by unfold Func.isWrapper; first | (rw [if_pos (by decide +kernel)]; kernel_rfl) | (rw [if_neg (by decide +kernel)]; exact ⟨rfl, rfl⟩))
    (fun os started H enc _ F => by rw [OpenClaim.pre_eq_preRow]; exact lifted os started H enc F)
end Go.Proofs.YtmjlmlipnejbfaaGreatDoor.splits
