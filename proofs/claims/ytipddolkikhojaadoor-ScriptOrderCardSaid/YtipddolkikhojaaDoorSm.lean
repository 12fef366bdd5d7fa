/- A map from words to true, as the call itself made it; 'm[k] = true' in both its forms. -/
import Derived.Test.YtipddolkikhojaaDoorBk
import Derived.WalkKit
import Derived.Lib.Hide
import Derived.Below
import Derived.Maps.Own
import Derived.Maps.OwnSet
import Derived.Maps.Views
import Derived.StringKeys
namespace Go.Proofs.YtipddolkikhojaaDoor
open Go.RowKit

abbrev TM : TypeId := 73
theorem strKeyed : Go.Maps.Keyed Tryd.prog 9 := Go.Maps.string_keyed Tryd.underlying9
theorem keyStr {s : ByteArray} (h : s.size ≤ 100) : keyOf Tryd.prog 9 (.string s) = some (.string s.data.toList) := Go.WideMaps.keyOf_string_mk Tryd.underlying9 (by unfold maxLen; omega)
/-- An element is its own datum. -/
def heldV (v : Value) : Option (DataW Value × List MemPlace) := some (.held v, [])
/-- Block b holds a map of at most n words, all of which say true. -/
def SM (w : World) (b n : Nat) (M : List UInt8 → Bool) : Prop :=
  ∃ D : DataW Value, w.ownsMap Tryd.prog 9 heldV b n D ∧ ∀ s : List UInt8, Maps.has D (.string s) = M s ∧ (M s = true → ∀ z, D.atKey (.string s) z = .held (.bool true))
theorem SM.made (w : World) : SM (w.alloc (.map #[] 0)) w.heap.size 0 (fun _ => false) :=
  ⟨.map [], World.ownsMap_made w _ _ _, fun i => ⟨rfl, fun h => by cases h⟩⟩
theorem SM.keep {w w' : World} {b n : Nat} {M : List UInt8 → Bool} (h : SM w b n M) (hb : w'.heap[b]? = w.heap[b]?) : SM w' b n M := by
  obtain ⟨D, ⟨es, clock, hh, r⟩, hM⟩ := h
  exact ⟨D, ⟨es, clock, hb.trans hh, r⟩, hM⟩
theorem SM.lt {w : World} {b n : Nat} {M : List UInt8 → Bool} (h : SM w b n M) : b < w.heap.size := by
  obtain ⟨D, h, _⟩ := h
  exact h.lt
theorem SM.obj {w : World} {b n : Nat} {M : List UInt8 → Bool} (h : SM w b n M) : ∃ o, w.heap[b]? = some o ∧ Obj.far o := by
  obtain ⟨D, ⟨es, clock, hh, r⟩, hM⟩ := h
  exact ⟨_, hh, fun cs t f e => by cases e⟩
theorem SM.look {w : World} {b n : Nat} {M : List UInt8 → Bool} (h : SM w b n M) {s : ByteArray} (hs : s.size ≤ 100) :
    (Instr.lookup TM (.map (some b)) (.string s) false).run Tryd.prog w = .ok (.bool (M s.data.toList)) w := by
  obtain ⟨D, h, hM⟩ := h
  obtain ⟨v, ps, hrun, hv⟩ := h.lookup strKeyed Tryd.underlying73 (Tryd.zeroValue4 w) (zd := .held (.bool false)) (zp := []) rfl (keyStr hs)
  obtain ⟨h1, h2⟩ := hM s.data.toList
  rw [hrun]
  have : v = .bool (M s.data.toList) := by
    have hv : DataW.held v = D.atKey (.string s.data.toList) (.held (.bool false)) := congrArg Prod.fst (Option.some.inj hv)
    cases hm : M s.data.toList with
    | false =>
      rw [hm] at h1
      rw [Maps.atKey_of_not_has h1] at hv
      injection hv with hv
    | true =>
      rw [h2 hm] at hv
      injection hv with hv
  rw [this]
def putS (M : List UInt8 → Bool) (s : List UInt8) : List UInt8 → Bool := fun j => if j = s then true else M j
theorem SM.put {w : World} {b n : Nat} {M : List UInt8 → Bool} (h : SM w b n M) (hn : n < 1000000) {s : ByteArray} (hs : s.size ≤ 100) :
    ∃ w', (Instr.mapUpdate TM (.map (some b)) (.string s) (.bool true)).run Tryd.prog w = .ok () w' ∧ SM w' b (n + 1) (putS M s.data.toList) ∧ w.mapTurned w' b := by
  obtain ⟨D, h, hM⟩ := h
  have hm := h.isMap
  obtain ⟨w', hrun, h', ht'⟩ := h.store strKeyed Tryd.underlying73 (by unfold maxLen; omega) (val := .bool true) (d := .held (.bool true)) (ps := []) (keyStr hs) rfl
  refine ⟨w', hrun, ⟨_, h', fun j => ?_⟩, ht'⟩
  have hk : WideAt.IsKeyLit (.string s.data.toList) := strKeyed.key (keyStr hs)
  by_cases hji : j = s.data.toList
  · subst hji
    refine ⟨by rw [Maps.has_put_same hm hk]; simp [putS], fun _ z => ?_⟩
    rw [Maps.atKey_put_same hm hk]
  · have hne : (Lit.string j) ≠ Lit.string s.data.toList := fun e => by injection e with e; exact hji e
    refine ⟨by rw [Maps.has_put_other hne]; simp only [putS, if_neg hji]; exact (hM j).1, fun hu z => ?_⟩
    rw [Maps.atKey_put_other hne]
    simp only [putS, if_neg hji] at hu
    exact (hM j).2 hu z
theorem turned_block {w w' : World} {b : Nat} (h : w.mapTurned w' b) (c : Nat) (hc : c ≠ b) : w'.heap[c]? = w.heap[c]? := by
  obtain ⟨es, clock, es', clock', hb, rfl⟩ := h
  exact Go.ChangeMaps.heap_setBlock_other hb _ hc
theorem turned_size {w w' : World} {b : Nat} (h : w.mapTurned w' b) : w'.heap.size = w.heap.size := by
  obtain ⟨es, clock, es', clock', hb, rfl⟩ := h
  simp [Go.ChangeMaps.setBlock]
theorem Below.turned {B : Nat} {W w w' : World} {b : Nat} (h : Below B W w) (ht : w.mapTurned w' b) (hb : B ≤ b) : Below B W w' :=
  h.grown ht.grown (by obtain ⟨es, clock, _, _, hh, _⟩ := ht; have := heap_lt hh; omega) fun k hk => by cases hk; exact hb
theorem mod_last {α : Type} (f : α → α) : ∀ (l : List α) (a : α), (l ++ [a]).modify l.length f = l ++ [f a]
  | [], a => rfl
  | x :: l, a => by
    have := mod_last f l a
    simp only [List.cons_append, List.length_cons, List.modify_succ_cons, this]
theorem born_new (es : Array MapEntry) (clock : Nat) (e : MapEntry) (he : e.born = clock) (hs : ∀ x ∈ es.toList, x.born < clock) : (es.push e).findIdx? (fun x => ((x.born : Nat) : Int) == (clock : Int)) = some es.size := by
  rw [Array.findIdx?_push]
  have h1 : es.findIdx? (fun x => ((x.born : Nat) : Int) == (clock : Int)) = none := by
    rw [Array.findIdx?_eq_none_iff]
    intro x hx
    have := hs x (by simpa using hx)
    rw [beq_eq_false_iff_ne]
    omega
  rw [h1, he]
  simp
/-- 'm[k], .. = true, ..' where k is not there: the entry is made, then written. -/
theorem SM.entry {w : World} {b n : Nat} {M : List UInt8 → Bool} (h : SM w b n M) (hn : n < 1000000) {s : ByteArray} (hs : s.size ≤ 100) (hM : M s.data.toList = false) :
    ∃ w1 w' c, (Instr.mapEntry TM (.map (some b)) (.string s)).run Tryd.prog w = .ok (.tuple #[.bool false, .int .i64 c]) w1 ∧ (Instr.entryStore TM (.map (some b)) (.int .i64 c) (.bool true)).run Tryd.prog w1 = .ok () w' ∧ SM w' b (n + 1) (putS M s.data.toList) ∧ w.mapTurned w1 b ∧ w.mapTurned w' b := by
  obtain ⟨w', hrun, hsm, ht⟩ := h.put hn hs
  obtain ⟨D, ⟨es, clock, hb, F, hsz, hD⟩, hMD⟩ := h
  have hkey := keyStr hs
  rcases strKeyed.find w hkey es.toList F.keys with ⟨h1, h2⟩ | ⟨j, e0, h1, h2, h3⟩
  · have hr : (Instr.mapUpdate TM (.map (some b)) (.string s) (.bool true)).run Tryd.prog w = .ok () (Go.ChangeMaps.setBlock w b (.map (es.push ⟨.string s, .bool true, clock⟩) (clock + 1))) := by
      simp [Instr.mapUpdate, run_underlying Tryd.underlying73, MapKept.run_getObj_map hb, strKeyed.check w false hkey, h1, MapKept.run_setObj_map _ hb, Result.andThen, Go.ChangeMaps.setBlock]
    rw [hr] at hrun
    injection hrun with _ hw
    have hb1 : (Go.ChangeMaps.setBlock w b (.map (es.push ⟨.string s, .bool false, clock⟩) (clock + 1))).heap[b]? = some (.map (es.push ⟨.string s, .bool false, clock⟩) (clock + 1)) := Go.ChangeMaps.heap_setBlock_same hb _
    refine ⟨Go.ChangeMaps.setBlock w b (.map (es.push ⟨.string s, .bool false, clock⟩) (clock + 1)), w', (clock : Int), ?_, ?_, hsm, ⟨es, clock, _, _, hb, rfl⟩, ht⟩
    · have z := Tryd.zeroValue4 w
      simp [Instr.mapEntry, run_underlying Tryd.underlying73, MapKept.run_getObj_map hb, strKeyed.check w false hkey, h1, z, MapKept.run_setObj_map _ hb, Result.andThen, Go.ChangeMaps.setBlock, goInt]
    · rw [← hw]
      have hbn := born_new es clock ⟨.string s, .bool false, clock⟩ rfl F.stamped.1
      have hi : ∀ W : World, (asIntOf (.int .i64 (clock : Int))).run Tryd.prog W = .ok (.i64, (clock : Int)) W := fun _ => rfl
      have hmod : (es.push (⟨.string s, .bool false, clock⟩ : MapEntry)).modify es.size (fun e => ⟨e.key, .bool true, e.born⟩) = es.push ⟨.string s, .bool true, clock⟩ := by
        apply Array.toList_inj.1
        rw [Array.toList_modify, Array.toList_push, Array.toList_push, ← Array.length_toList, mod_last]
      simp [Instr.entryStore, MapKept.run_getObj_map hb1, asInt, hi, hbn, MapKept.run_setObj_map _ hb1, hmod, Result.andThen]
      simp [Go.ChangeMaps.setBlock]
  · exfalso
    obtain ⟨v, ps, hl, _⟩ := (World.ownsMap.look_ok (R := heldV) (n := n) (D := D) ⟨es, clock, hb, F, hsz, hD⟩ strKeyed Tryd.underlying73 (Tryd.zeroValue4 w) (zd := .held (.bool false)) (zp := []) rfl hkey)
    rw [(hMD _).1, hM] at hl
    have hl2 : (Instr.lookup TM (.map (some b)) (.string s) true).run Tryd.prog w = .ok (.tuple #[e0.val, .bool true]) w := by
      simp [Instr.lookup, run_underlying Tryd.underlying73, MapKept.run_getObj_map hb, strKeyed.check w _ hkey, h1, Result.andThen]
    rw [hl2] at hl
    injection hl with hl _
    injection hl with hl
    simp at hl
end Go.Proofs.YtipddolkikhojaaDoor
