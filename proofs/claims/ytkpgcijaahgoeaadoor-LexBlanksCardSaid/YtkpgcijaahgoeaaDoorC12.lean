import Derived.WalkKit
import Derived.Deep.LoopGhost
import Derived.Lib.Walk
import Derived.Lib.SliceRun
import Derived.Test.YtkpgcijaahgoeaaDoorC11
section
set_option linter.unusedVariables false
set_option linter.unusedSimpArgs false
namespace Go.Av.G
open Go Go.Av Go.Proofs Go.Shelf Go.RowKit Go.Lib
theorem hm : Tryd.prog.follows .mixedOrders = true := by kernel_rfl
theorem after_of_below {w w' : World} {ok : Nat → Prop} {γ δ : Nat → Blk} {x : SV} {v : Value} (hb : Below w.heap.size w w') (hv : SLies w' (okB ⟨w, [], γ, 0, ok, []⟩ (resβ γ δ) (resLk [] []) w') (resβ γ δ) (resLk [] []) x v) : After ⟨w, [], γ, 0, ok, []⟩ w' ⟨x, [], []⟩ v δ := by
 have no : ∀ k o, resLk [] [] k = some o → False := by intro k o h; cases k <;> simp [resLk] at h
 exact ⟨hb.size, fun b hb' _ => hb.block b hb', fun k k' o o' b h => (no _ _ h).elim, fun k o b h => (no _ _ h).elim, rfl, fun i o h => (no _ _ h).elim, fun k o h => (no _ _ h).elim, hv, ⟨hb.os, hb.tape, hb.output⟩⟩
theorem contract_data {P : Program} {f : FuncId} (hE : Enters P f) {ps : List PV} {r : SV} (h : ∀ (w : World) (ok : Nat → Prop) (vs : List Value), GOK w ok → ps.length = vs.length → (∀ (j : Nat) (x : PV) (v : Value), ps[j]? = some x → vs[j]? = some v → Lies w ok x v) →
  Calls P f vs.toArray w fun e w' => ∃ v, e = .returned v ∧ Below w.heap.size w w' ∧ ∀ W ok' β lk, SLies W ok' β lk r v) : Contract P f (ps.map .pv) [] ⟨r, [], []⟩ := by
 refine ⟨hE, fun w vs γ ok h1 hG h2 h3 h4 h5 => ?_⟩
 refine (h w ok vs hG (by simpa using h4) (fun j x v hx hv => slies_pv (h5 j (.pv x) v (by simp [hx]) hv))).mono ?_
 rintro e w' ⟨v, rfl, hb, hs⟩
 exact ⟨v, fun _ => ⟨none, 0⟩, rfl, after_of_below hb (hs _ _ _ _)⟩
theorem drew_below (w : World) : ∀ n, Below w.heap.size w (w.drewN n) := below_drewNg w
def strings_TrimLeft (s c : List UInt8) : Option (List UInt8) := if c.length < 4294967281 ∧ c.all (fun b => decide (b.toNat < 128)) = true then some (Lib.trimLeftS s c) else none
def strings_HasPrefix (s p : List UInt8) : Option Bool := some (Lib.hasPrefix s p)
def strings_Cut (s p : List UInt8) : Option (List UInt8 × List UInt8 × Bool) := if s.length < 4294967281 then some (Lib.cut s p) else none
def strings_Count (s p : List UInt8) : Option Int := match p with | [c] => some (Lib.countByte s c) | _ => none
def strings_LastIndexByte (s : List UInt8) (c : Int) : Option Int := if s.length < 4611686018427387904 then some (Lib.lastIndexByte ⟨s.toArray⟩ c) else none
def strings_IndexByte (s : List UInt8) (c : Int) : Option Int := some (Lib.indexByte s c.toNat.toUInt8)
def strings_Contains (s p : List UInt8) : Option Bool := if s.length < 4294967281 then some (Lib.contains s p) else none
theorem two {ps : List PV} {a b : PV} (hp : ps = [a, b]) {vs : List Value} {w : World} {ok : Nat → Prop} (hl : ps.length = vs.length) (h : ∀ (j : Nat) (x : PV) (v : Value), ps[j]? = some x → vs[j]? = some v → Lies w ok x v) : ∃ v1 v2, vs = [v1, v2] ∧ Lies w ok a v1 ∧ Lies w ok b v2 := by
 subst hp
 match vs, hl with
 | [v1, v2], _ => exact ⟨v1, v2, rfl, h 0 _ _ rfl rfl, h 1 _ _ rfl rfl⟩
theorem strings_TrimLeft_ok {s c r : List UInt8} (h : strings_TrimLeft s c = some r) : Contract Tryd.prog 26 [.pv (.str s), .pv (.str c)] [] ⟨.pv (.str r), [], []⟩ := by
 unfold strings_TrimLeft at h
 split at h
 ·rename_i hc
  cases h
  refine contract_data (ps := [.str s, .str c]) ⟨Tryd.f26, Tryd.func26, by kernel_rfl, by kernel_rfl⟩ fun w ok vs hG hl hv => ?_
  obtain ⟨v1, v2, rfl, l1, l2⟩ := two rfl hl hv
  obtain rfl := lies_str l1
  obtain rfl := lies_str l2
  refine (Any.strings_TrimLeft_laid Tryd.lays161 (by kernel_rfl) ⟨s.toArray⟩ ⟨c.toArray⟩ w (by rw [bytes_size]; exact hc.1) (fun j b hj => ?_)).mono ?_
  ·have := List.all_eq_true.1 hc.2 b (List.mem_of_getElem? hj)
   simpa using this
  ·rintro e w' ⟨rfl, hb⟩
   exact ⟨_, rfl, hb, fun _ _ _ _ => .pv _ _ (.str _)⟩
 ·cases h
theorem strings_HasPrefix_ok {s p : List UInt8} {r : Bool} (h : strings_HasPrefix s p = some r) : Contract Tryd.prog 27 [.pv (.str s), .pv (.str p)] [] ⟨.pv (.bool r), [], []⟩ := by
 cases h
 refine contract_data (ps := [.str s, .str p]) ⟨Tryd.f27, Tryd.func27, by kernel_rfl, by kernel_rfl⟩ fun w ok vs hG hl hv => ?_
 obtain ⟨v1, v2, rfl, l1, l2⟩ := two rfl hl hv
 obtain rfl := lies_str l1
 obtain rfl := lies_str l2
 refine (Any.strings_HasPrefix Tryd.lays99 ⟨s.toArray⟩ ⟨p.toArray⟩ w).mono ?_
 rintro e w' ⟨rfl, rfl⟩
 exact ⟨_, rfl, Below.refl _ _, fun _ _ _ _ => .pv _ _ (.bool _)⟩
theorem strings_Cut_ok {s p : List UInt8} {r : List UInt8 × List UInt8 × Bool} (h : strings_Cut s p = some r) : Contract Tryd.prog 28 [.pv (.str s), .pv (.str p)] [] ⟨.tup [.pv (.str r.1), .pv (.str r.2.1), .pv (.bool r.2.2)], [], []⟩ := by
 unfold strings_Cut at h
 split at h
 ·rename_i hs
  cases h
  refine contract_data (ps := [.str s, .str p]) ⟨Tryd.f28, Tryd.func28, by kernel_rfl, by kernel_rfl⟩ fun w ok vs hG hl hv => ?_
  obtain ⟨v1, v2, rfl, l1, l2⟩ := two rfl hl hv
  obtain rfl := lies_str l1
  obtain rfl := lies_str l2
  obtain ⟨m, hm⟩ := hG.2
  refine (Any.strings_Cut Tryd.lays145 ⟨s.toArray⟩ ⟨p.toArray⟩ m w (by rw [bytes_size]; exact hs) hm).mono ?_
  rintro e w' ⟨rfl, n, rfl⟩
  refine ⟨_, rfl, drew_below _ _, fun _ _ _ _ => .tup _ [_, _, _] rfl fun j x u hx hu => ?_⟩
  match j with
  | 0 => cases hx; cases hu; exact .pv _ _ (.str _)
  | 1 => cases hx; cases hu; exact .pv _ _ (.str _)
  | 2 => cases hx; cases hu; exact .pv _ _ (.bool _)
  | j + 3 => simp at hx
 ·cases h
theorem strings_Count_ok {s p : List UInt8} {r : Int} (h : strings_Count s p = some r) : Contract Tryd.prog 30 [.pv (.str s), .pv (.str p)] [] ⟨.pv (.int .i64 r), [], []⟩ := by
 unfold strings_Count at h
 split at h
 ·rename_i c
  cases h
  refine contract_data (ps := [.str s, .str [c]]) ⟨Tryd.f30, Tryd.func30, by kernel_rfl, by kernel_rfl⟩ fun w ok vs hG hl hv => ?_
  obtain ⟨v1, v2, rfl, l1, l2⟩ := two rfl hl hv
  obtain rfl := lies_str l1
  obtain rfl := lies_str l2
  refine (Any.strings_Count_one Tryd.lays138 ⟨s.toArray⟩ c w).mono ?_
  rintro e w' ⟨rfl, rfl⟩
  exact ⟨_, rfl, Below.refl _ _, fun _ _ _ _ => .pv _ _ (.int _ _)⟩
 ·cases h
theorem strings_LastIndexByte_ok {s : List UInt8} {c r : Int} (h : strings_LastIndexByte s c = some r) : Contract Tryd.prog 31 [.pv (.str s), .pv (.int .u8 c)] [] ⟨.pv (.int .i64 r), [], []⟩ := by
 unfold strings_LastIndexByte at h
 split at h
 ·rename_i hs
  cases h
  refine contract_data (ps := [.str s, .int .u8 c]) ⟨Tryd.f31, Tryd.func31, by kernel_rfl, by kernel_rfl⟩ fun w ok vs hG hl hv => ?_
  obtain ⟨v1, v2, rfl, l1, l2⟩ := two rfl hl hv
  obtain rfl := lies_str l1
  cases l2
  refine (Any.strings_LastIndexByte Tryd.lays149 ⟨s.toArray⟩ c (by rw [bytes_size]; exact hs) w).mono ?_
  rintro e w' ⟨rfl, rfl⟩
  exact ⟨_, rfl, Below.refl _ _, fun _ _ _ _ => .pv _ _ (.int _ _)⟩
 ·cases h
theorem strings_IndexByte_ok {s : List UInt8} {c r : Int} (h : strings_IndexByte s c = some r) : Contract Tryd.prog 68 [.pv (.str s), .pv (.int .u8 c)] [] ⟨.pv (.int .i64 r), [], []⟩ := by
 cases h
 refine contract_data (ps := [.str s, .int .u8 c]) ⟨Tryd.f68, Tryd.func68, by kernel_rfl, by kernel_rfl⟩ fun w ok vs hG hl hv => ?_
 obtain ⟨v1, v2, rfl, l1, l2⟩ := two rfl hl hv
 obtain rfl := lies_str l1
 cases l2
 refine (Tryd.strings_IndexByte ⟨s.toArray⟩ c w).mono ?_
 rintro e w' ⟨rfl, rfl⟩
 exact ⟨_, rfl, Below.refl _ _, fun _ _ _ _ => .pv _ _ (.int _ _)⟩
theorem strings_Contains_ok {s p : List UInt8} {r : Bool} (h : strings_Contains s p = some r) : Contract Tryd.prog 70 [.pv (.str s), .pv (.str p)] [] ⟨.pv (.bool r), [], []⟩ := by
 unfold strings_Contains at h
 split at h
 ·rename_i hs
  cases h
  refine contract_data (ps := [.str s, .str p]) ⟨Tryd.f70, Tryd.func70, by kernel_rfl, by kernel_rfl⟩ fun w ok vs hG hl hv => ?_
  obtain ⟨v1, v2, rfl, l1, l2⟩ := two rfl hl hv
  obtain rfl := lies_str l1
  obtain rfl := lies_str l2
  obtain ⟨m, hm⟩ := hG.2
  refine (Any.strings_Contains Tryd.lays144 ⟨s.toArray⟩ ⟨p.toArray⟩ m w (by rw [bytes_size]; exact hs) hm).mono ?_
  rintro e w' ⟨rfl, rfl⟩
  exact ⟨_, rfl, Below.refl _ _, fun _ _ _ _ => .pv _ _ (.bool _)⟩
 ·cases h
noncomputable def strings_IndexFunc (f : Int → Option Bool) (s : List UInt8) : Option Int :=
 open Classical in if h : ∃ p : Nat → Bool, ∀ x : Nat, f x = some (p x) then some (Lib.idxFunc h.choose true ⟨s.toArray⟩) else none
theorem strings_IndexFunc_eq {f : Int → Option Bool} {s : List UInt8} (p : Nat → Bool) (hp : ∀ x : Nat, f x = some (p x)) : strings_IndexFunc f s = some (Lib.idxFunc p true ⟨s.toArray⟩) := by
 unfold strings_IndexFunc
 have h : ∃ p : Nat → Bool, ∀ x : Nat, f x = some (p x) := ⟨p, hp⟩
 rw [dif_pos h]
 have e : h.choose = p := funext fun x => by
  have := h.choose_spec x
  rw [hp x] at this
  exact (Option.some.inj this).symm
 rw [e]
theorem pred_of {g : FuncId} {caps : List SV} {f : Int → Option Bool} (hf : ∀ x r, f x = some r → Contract Tryd.prog g ([.pv (.int .i32 x)] ++ caps) [] ⟨.pv (.bool r), [], []⟩) {p : Nat → Bool} (hp : ∀ x : Nat, f x = some (p x)) (w : World) {ok : Nat → Prop} (hok : ∀ b, ok b → b < w.heap.size) (hG : GOK w ok)
  {us : List Value} (hl : caps.length = us.length) {γ : Nat → Blk} (hc : ∀ (j : Nat) (x : SV) (u : Value), caps[j]? = some x → us[j]? = some u → SLies w ok (argβ γ) (argLk []) x u) : PredGrows Tryd.prog g us.toArray p w := by
 intro W x _ hgr
 have e : #[encR x] ++ us.toArray = (encR x :: us).toArray := by simp
 rw [e]
 have hkeep : Keeps ok w W := fun b hb off u hu => by
  have := hgr.block b (hok b hb)
  simpa only [World.cell?, this] using hu
 refine ((hf x _ (hp x)).2 W (encR x :: us) γ ok (fun b hb => ⟨Nat.lt_of_lt_of_le (hok b hb) hgr.size, by simp⟩) (gok_keep hG fun b hb hlt => ⟨hgr.block b hlt, hb⟩) (by simp) (by simp) (by simp [hl]) ?_).mono ?_
 ·intro j x' v hx hv
  cases j with
  | zero => simp at hx hv; subst hx; subst hv; exact .pv _ _ (.int _ _)
  | succ j =>
   refine (hc j x' v (by simpa using hx) (by simpa using hv)).mono hkeep (fun _ h => h) (fun k o h => ?_)
   exact ⟨o, h, HObj.sim_refl _, rfl⟩
 ·rintro e w' ⟨v, δ, rfl, ha⟩
  have hv := lies_bool (slies_pv ha.val)
  subst hv
  exact ⟨rfl, ha.quiet.os, ha.quiet.tape, ha.quiet.out, ha.size, fun k hk => ha.frame k hk (fun ⟨i, hi, _⟩ => by cases hi)⟩
theorem strings_IndexFunc_ok {g : FuncId} {caps : List SV} {f : Int → Option Bool} {s : List UInt8} {r : Int} (hf : ∀ x r, f x = some r → Contract Tryd.prog g ([.pv (.int .i32 x)] ++ caps) [] ⟨.pv (.bool r), [], []⟩) (h : strings_IndexFunc f s = some r) {c : SV} (hcl : ∀ w ok β lk v, SLies w ok β lk c v → ∃ us : List Value, v = .func (.func g) #[] us.toArray ∧ caps.length = us.length ∧ ∀ (j : Nat) (x : SV) (u : Value), caps[j]? = some x → us[j]? = some u → SLies w ok β lk x u) :
  Contract Tryd.prog 79 [.pv (.str s), c] [] ⟨.pv (.int .i64 r), [], []⟩ := by
 unfold strings_IndexFunc at h
 split at h
 ·rename_i hx
  simp only [Option.some.injEq] at h
  have hp := hx.choose_spec
  refine ⟨⟨Tryd.f79, Tryd.func79, by kernel_rfl, by kernel_rfl⟩, fun w vs γ ok h1 hG h2 h3 h4 h5 => ?_⟩
  match vs, h4 with
  | [v1, v2], _ =>
   have e1 := lies_str (slies_pv (h5 0 _ _ rfl rfl))
   obtain ⟨us, e2, hul, huc⟩ := hcl _ _ _ _ _ (h5 1 _ _ rfl rfl)
   subst e1; subst e2
   obtain ⟨fn, hfn, hne, hbd⟩ := (hf 0 _ (hp 0)).1
   obtain ⟨c', hc'⟩ : ∃ c, fn.body = some c := by
    cases hb : fn.body with
    | none => rw [hb] at hbd; cases hbd
    | some c => exact ⟨c, rfl⟩
   refine (Tryd.strings_IndexFunc_grows g us.toArray (enters_of hfn hne hc') hx.choose ⟨s.toArray⟩ w (pred_of hf hp w (fun b hb => (h1 b hb).1) hG hul huc)).mono ?_
   rintro e w' ⟨rfl, hb⟩
   exact ⟨_, fun _ => ⟨none, 0⟩, rfl, after_of_below hb (.pv _ _ (by rw [← h]; exact .int _ _))⟩
 ·cases h
theorem held_fn {g : FuncId} {caps : List SV} : ∀ w ok β lk v, SLies w ok β lk (.fn g caps) v → ∃ us : List Value, v = .func (.func g) #[] us.toArray ∧ caps.length = us.length ∧ ∀ (j : Nat) (x : SV) (u : Value), caps[j]? = some x → us[j]? = some u → SLies w ok β lk x u := by
 intro w ok β lk v h
 cases h
 rename_i us hl h
 exact ⟨us, rfl, hl, h⟩
end Go.Av.G
end
section
set_option linter.unusedVariables false
set_option linter.unusedSimpArgs false
namespace Go.Av.G
open Go Go.Av Go.Proofs Go.Shelf Go.RowKit Go.Lib
def strings_Join (l : List (List UInt8)) (sep : List UInt8) : Option (List UInt8) := if l.length ≤ 140737488355328 ∧ (Lib.join l sep).length ≤ 140737488355328 then some (Lib.join l sep) else none
theorem strings_Join_ok {l : List (List UInt8)} {sep r : List UInt8} (h : strings_Join l sep = some r) : Contract Tryd.prog 25 [.pv (.slice (List.map eStr l)), .pv (.str sep)] [] ⟨.pv (.str r), [], []⟩ := by
 unfold strings_Join at h
 split at h
 ·rename_i hb
  cases h
  refine ⟨⟨Tryd.f25, Tryd.func25, by kernel_rfl, by kernel_rfl⟩, fun w vs γ ok h1 hG h2 h3 h4 h5 => ?_⟩
  match vs, h4 with
  | [v1, v2], _ =>
   have l1 := slies_pv (h5 0 _ _ rfl rfl)
   have e2 := lies_str (slies_pv (h5 1 _ _ rfl rfl))
   subst e2
   obtain ⟨ad, c, sz, us, rfl, hc, hsz, _, hat, hp, hlie⟩ := lies_slice l1
   cases l with
   | nil =>
    refine (Any.strings_Join_none Tryd.lays156 Tryd.Builder_Extra_156 ad c ⟨sep.toArray⟩ w).mono ?_
    rintro e w' ⟨rfl, rfl⟩
    exact ⟨_, fun _ => ⟨none, 0⟩, rfl, after_of_below (Below.refl _ _) (.pv _ _ (.str _))⟩
   | cons x t =>
    have hmap : ((x :: t).map eStr).length = (x :: t).length := List.length_map ..
    obtain ⟨b, rfl, hbs⟩ := hp (by simp)
    have hbe : b = ⟨b.block, b.off, none⟩ := by rw [← hbs]
    have hz : sz = 1 := by rw [← hsz (eStr x) (by simp)]; rfl
    subst hz
    have hbk : b.block < w.heap.size := by
     obtain ⟨b', e, _, hok, _⟩ := hat 0 0 (by simp) (by omega)
     cases e
     exact (h1 _ hok).1
    have hcells : ∀ (j : Nat) y, ((x :: t).map fun s => (⟨s.toArray⟩ : ByteArray))[j]? = some y → w.cell? ⟨b.block, b.off + j, none⟩ = some (.string y) := by
     intro j y hy
     rw [List.getElem?_map, Option.map_eq_some_iff] at hy
     obtain ⟨s, hs, rfl⟩ := hy
     have hj := (List.getElem?_eq_some_iff.1 hs).1
     obtain ⟨b', e, _, _, hcell⟩ := hat j 0 (by rw [hmap]; exact hj) (by omega)
     cases e
     have hl := hlie j 0 (eStr s) (.str s) (by rw [List.getElem?_map, hs]; rfl) rfl
     have := lies_str hl
     rw [this] at hcell
     simpa using hcell
    have hid : ((x :: t).map fun s => (⟨s.toArray⟩ : ByteArray)).map (·.data.toList) = x :: t := by simp [List.map_map, Function.comp_def]
    have hlen2 : ((x :: t).map fun s => (⟨s.toArray⟩ : ByteArray)).length = (x :: t).length := List.length_map ..
    have hj := Any.strings_Join Tryd.lays156 Tryd.Builder_Extra_156 b.block b.off c ((x :: t).map fun s => (⟨s.toArray⟩ : ByteArray)) ⟨sep.toArray⟩ w hcells hbk (by rw [hlen2]; exact hb.1) (by rw [hlen2, ← hmap]; exact hc) (by rw [hid]; exact hb.2)
    rw [hid, hlen2, ← hmap, ← hbe] at hj
    refine hj.mono ?_
    rintro e w' ⟨rfl, hb'⟩
    exact ⟨_, fun _ => ⟨none, 0⟩, rfl, after_of_below hb' (.pv _ _ (.str _))⟩
 ·cases h
end Go.Av.G
end
