/- What a decoder makes of a clause's own instructions; plain. A clause of a text in memory, for the laws of layer 11. A clause's own instructions are such as a decoder reads; plain. -/
import Derived.Test.YtlgeepjlnjlgdaaGf
import Derived.Test.YtlgeepjlnjlgdaaDr3
import Derived.Test.YtlgeepjlnjlgdaaCo4
namespace Go.Proofs.Ytlgeepjlnjlgdaa
open Go.RowKit

theorem good_depth : ∀ {t : T}, t.good → t.depth ≤ t.nodes
  | .nil, h => h.elim
  | .mk k n s m a, h => by
    simp only [T.depth, T.nodes]
    split
    · have : maxTo m (fun i => (a i).depth) ≤ sumTo m fun i => (a i).nodes := maxTo_lt fun i hi => Nat.le_trans (good_depth (h.2 i hi)) (sumTo_one (f := fun i => (a i).nodes) hi)
      omega
    · omega
theorem esc_some {c : UInt8} (h : byteB c = true) : ∃ x, esc1 c = some x := by
  unfold esc1
  by_cases h1 : c = 10
  · exact ⟨_, if_pos h1⟩
  · rw [if_neg h1]
    by_cases h2 : c = 9
    · exact ⟨_, if_pos h2⟩
    · rw [if_neg h2]
      by_cases h3 : c = 92 ∨ c = 39
      · exact ⟨_, if_pos h3⟩
      · rw [if_neg h3]
        refine ⟨_, if_neg ?_⟩
        unfold byteB at h
        simp [h1, h2] at h
        omega
theorem escN_all : ∀ {l : List UInt8}, l.all byteB = true → ∃ x, escN l = some x
  | [], _ => ⟨[], rfl⟩
  | c :: l, h => by
    rw [List.all_cons, Bool.and_eq_true] at h
    obtain ⟨x, hx⟩ := esc_some h.1
    obtain ⟨y, hy⟩ := escN_all h.2
    exact ⟨x ++ y, by rw [escN, hx, hy]⟩
theorem quote_ok {s : ByteArray} (h : nameOk s) : (quoteN s).size ≠ 0 := by
  unfold quoteN
  cases hp : plainN s with
  | true =>
    rw [if_pos rfl]
    unfold plainN at hp
    rw [Bool.and_eq_true] at hp
    have := of_decide_eq_true hp.1
    omega
  | false =>
    rw [if_neg (by decide)]
    obtain ⟨x, hx⟩ := escN_all h.2
    rw [hx]
    show (quotedN x).size ≠ 0
    unfold quotedN
    show (39 :: (x ++ [39])).toArray.size ≠ 0
    simp
theorem good_legal : ∀ {t : T}, t.good → t.legal
  | .nil, h => h.elim
  | .mk k n s m a, h => by
    rcases h.1 with h1 | h1 | h1 | h1
    · exact .inl ⟨h1.1, h1.2.1⟩
    · exact .inr (.inl h1.1)
    · exact .inr (.inr (.inl ⟨h1.1, quote_ok h1.2.2.1⟩))
    · exact .inr (.inr (.inr ⟨h1.1, quote_ok h1.2.2.1, h1.2.2.2, fun i hi => good_legal (h.2 i hi)⟩))
theorem good_call {t : T} (h : t.good) (hk : t.kindC) (hn : t.nodes ≤ 1000) : t.callC :=
  ⟨hk, ⟨good_legal h, by rw [good_sizeK h]; exact hn⟩, Nat.le_trans (good_depth h) hn⟩
theorem sumTo_eq {f g : Nat → Nat} : ∀ {m : Nat}, (∀ i, i < m → f i = g i) → sumTo m f = sumTo m g
  | 0, _ => rfl
  | m + 1, h => by simp only [sumTo]; rw [sumTo_eq fun i hi => h i (by omega), h m (by omega)]
theorem ren_good {V : List Int} (hV : V.length ≤ 1000) : ∀ {t : T}, t.good → (renT V t).good ∧ (renT V t).nodes = t.nodes ∧ (t.kindC → (renT V t).kindC)
  | .nil, h => h.elim
  | .mk k n s m a, h => by
    rcases h.1 with ⟨rfl, h2, h3, rfl, rfl⟩ | ⟨rfl, h2, rfl, rfl⟩ | ⟨rfl, rfl, h2, rfl⟩ | ⟨rfl, rfl, h2, h3⟩
    · have e : ∃ j : Nat, j < 1000 ∧ renT V (.mk 1 n ⟨#[]⟩ 0 a) = vrT (j : Int) := by
        rw [renT, if_pos rfl]
        cases hp : plN V n 0 with
        | none => exact ⟨0, by decide, rfl⟩
        | some j => exact ⟨j, by have := (plN_lt hp).2.1; omega, rfl⟩
      obtain ⟨j, hj, e⟩ := e
      rw [e]
      exact ⟨⟨.inl ⟨rfl, by omega, by omega, rfl, rfl⟩, fun i hi => absurd hi (by omega)⟩, rfl, fun h => by rcases h with h | h <;> cases h⟩
    · exact ⟨⟨.inr (.inl ⟨rfl, h2, rfl, rfl⟩), fun i hi => absurd hi (by omega)⟩, rfl, fun h => by rcases h with h | h <;> cases h⟩
    · exact ⟨⟨.inr (.inr (.inl ⟨rfl, rfl, h2, rfl⟩)), fun i hi => absurd hi (by omega)⟩, rfl, fun _ => .inl rfl⟩
    · rw [ren_cmp]
      refine ⟨⟨.inr (.inr (.inr ⟨rfl, rfl, h2, h3⟩)), fun i hi => ?_⟩, ?_, fun _ => .inr rfl⟩
      · dsimp only; rw [if_pos hi]; exact (ren_good hV (h.2 i hi)).1
      · simp only [T.nodes]
        rw [sumTo_eq (g := fun i => (a i).nodes) fun i hi => by rw [if_pos hi]; exact (ren_good hV (h.2 i hi)).2.1]
theorem codeG_app : ∀ (gs : List T) (l : List Ins) (vs : List Int), codeG gs (l, vs) = (l ++ (codeG gs ([], vs)).1, (codeG gs ([], vs)).2)
  | [], l, vs => by simp [codeG]
  | g :: gs, l, vs => by
    show codeG gs _ = (_ ++ (codeG gs _).1, (codeG gs _).2)
    rw [codeG_app gs (l ++ _ ++ _), codeG_app gs ([] ++ _ ++ _)]
    simp
theorem goals_read {l : List Ins} {V : List Int} {D : Nat} (hD : D = 1000) (hV : V.length ≤ 1000) : ∀ (gs : List T) (vs : List Int) (acc : List T) (f i : Nat), (∀ g ∈ gs, g.good ∧ g.kindC ∧ g.nodes ≤ 1000) → gs.length < f → l.drop i = (codeG gs ([], vs)).1 ++ [⟨8, 0, ⟨#[]⟩⟩] → (codeG gs ([], vs)).2 <+: V →
    ∃ j, goalsR (rdT l D) l f acc i = some (acc ++ gs.map (renT V), j)
  | [], vs, acc, f, i, _, _, hl, _ => by
    refine ⟨i, ?_⟩
    rw [List.map_nil, List.append_nil]
    refine goals_end fun x hx => ?_
    have := congrArg (fun l => l[0]?) hl
    simp [codeG] at this
    rw [hx] at this
    injection this with this
    rw [this]
    decide
  | g :: gs, vs, acc, f, i, hg, hf, hl, hp => by
    obtain ⟨hgg, hgk, hgn⟩ := hg g List.mem_cons_self
    obtain ⟨f', rfl⟩ : ∃ q, f = q + 1 := ⟨f - 1, by simp at hf; omega⟩
    have e : codeG (g :: gs) ([], vs) = ([⟨7, 0, ⟨#[]⟩⟩] ++ (codeT g vs).1 ++ (codeG gs ([], (codeT g vs).2)).1, (codeG gs ([], (codeT g vs).2)).2) := by
      show codeG gs ([] ++ [⟨7, 0, ⟨#[]⟩⟩] ++ (codeT g vs).1, (codeT g vs).2) = _
      rw [codeG_app]
      simp
    rw [e] at hl hp
    have h0 : l[i]? = some ⟨7, 0, ⟨#[]⟩⟩ := by
      have := congrArg (fun l => l[0]?) hl
      simpa using this
    have h1 : l.drop (i + 1) = (codeT g vs).1 ++ ((codeG gs ([], (codeT g vs).2)).1 ++ [⟨8, 0, ⟨#[]⟩⟩]) := by
      have := congrArg (List.drop 1) hl
      rw [List.drop_drop] at this
      simpa using this
    have hpre : (codeT g vs).2 <+: V := (codeG_grow gs ([], (codeT g vs).2) fun x hx => (hg x (List.mem_cons_of_mem _ hx)).1.kinds).trans hp
    have hr := code_read l V g hgg.kinds vs D (i + 1) _ (by have := good_depth hgg; omega) h1 hpre
    have hR := ren_good hV hgg
    have hc : (renT V g).callC := good_call hR.1 (hR.2.2 hgk) (by rw [hR.2.1]; exact hgn)
    rw [goals_go h0 rfl hr hc]
    have h2 : l.drop (i + 1 + (codeT g vs).1.length) = (codeG gs ([], (codeT g vs).2)).1 ++ [⟨8, 0, ⟨#[]⟩⟩] := by
      have := congrArg (List.drop (codeT g vs).1.length) h1
      rw [List.drop_drop, List.drop_left] at this
      exact this
    obtain ⟨j, hj⟩ := goals_read hD hV gs (codeT g vs).2 (acc ++ [renT V g]) f' _ (fun x hx => hg x (List.mem_cons_of_mem _ hx)) (by simp at hf; omega) h2 hp
    exact ⟨j, by rw [hj]; simp⟩
theorem enc_ren {h : T} {gs : List T} {V : List Int} (hh : h.good) (hg : ∀ g ∈ gs, g.good) (hw : (wholeT h gs).thin) (hV : V = varsT (wholeT h gs)) (hVl : V.length ≤ 1000) :
    eqT (numT V (wholeT h gs)) (numT (varsT (wholeT (renT V h) (gs.map (renT V)))) (wholeT (renT V h) (gs.map (renT V)))) ∧ encN (renT V h) (gs.map (renT V)) = encN h gs := by
  have hk : (wholeT h gs).kinds := by
    refine ⟨.inr (.inr (.inr rfl)), fun h => absurd rfl h, fun i hi => ?_⟩
    cases i with
    | zero => exact hh.kinds
    | succ i =>
      have h2 : i < gs.length := by omega
      have e : (h :: gs).getD (i + 1) .nil = gs[i] := by rw [List.getD_cons_succ, List.getD_eq_getElem?_getD, List.getElem?_eq_getElem h2, Option.getD_some]
      dsimp only
      rw [e]
      exact (hg _ (List.getElem_mem h2)).kinds
  have he : eqT (numT V (wholeT h gs)) (numT (varsT (wholeT (renT V h) (gs.map (renT V)))) (wholeT (renT V h) (gs.map (renT V)))) := by
    rw [ren_whole, vars_ren V _ hk fun v hv => hV ▸ hv, ← hV]
    exact num_ren V _ hk hw fun v hv => hV ▸ hv
  refine ⟨he, (same_enc hh.kinds (fun g hgm => (hg g hgm).kinds) (ren_good hVl hh).1.kinds (fun g hgm => ?_) (hV ▸ he)).symm⟩
  obtain ⟨x, hx, rfl⟩ := List.mem_map.1 hgm
  exact (ren_good hVl (hg x hx)).1.kinds
theorem dec_enc {h : T} {gs : List T} {V : List Int} {D : Nat} (hD : D = 1000) (hh : h.good ∧ h.kindC ∧ h.nodes ≤ 1000) (hg : ∀ g ∈ gs, g.good ∧ g.kindC ∧ g.nodes ≤ 1000) (hw : (wholeT h gs).thin) (hV : V = varsT (wholeT h gs)) (hVl : V.length ≤ 1000) :
    decR (rdT (encN h gs) D) (encN h gs) = some (renT V h, gs.map (renT V)) := by
  have hE := (enc_ren hh.1 (fun g hm => (hg g hm).1) hw hV hVl).2
  have hv := enc_vars hh.1.kinds (fun g hm => (hg g hm).1.kinds)
  rw [← hV] at hv
  obtain ⟨c, hc⟩ : ∃ c, c = codeT h [] := ⟨_, rfl⟩
  have hb : encN h gs = [⟨1, (V.length : Int), ⟨#[]⟩⟩] ++ (c.1 ++ ((codeG gs ([], c.2)).1 ++ [⟨8, 0, ⟨#[]⟩⟩])) := by
    unfold encN
    rw [hv, ← hc]
    obtain ⟨c1, c2⟩ := c
    rw [codeG_app]
    simp
  have hp2 : (codeG gs ([], c.2)).2 = V := by
    rw [← hv, ← hc]
    obtain ⟨c1, c2⟩ := c
    rw [codeG_app gs c1]
  have hp1 : c.2 <+: V := by
    rw [← hp2]
    exact codeG_grow gs ([], c.2) fun g hm => (hg g hm).1.kinds
  obtain ⟨l, hl⟩ : ∃ l, l = encN h gs := ⟨_, rfl⟩
  rw [← hl] at hb hE ⊢
  have h1 : l.drop 1 = (codeT h []).1 ++ ((codeG gs ([], c.2)).1 ++ [⟨8, 0, ⟨#[]⟩⟩]) := by rw [hb, hc]; rfl
  have hr := code_read l V h hh.1.kinds [] D 1 _ (by have := good_depth hh.1; omega) h1 (hc ▸ hp1)
  have hR := ren_good hVl hh.1
  have hcc : (renT V h).callC := good_call hR.1 (hR.2.2 hh.2.1) (by rw [hR.2.1]; exact hh.2.2)
  have h2 : l.drop (1 + (codeT h []).1.length) = (codeG gs ([], c.2)).1 ++ [⟨8, 0, ⟨#[]⟩⟩] := by
    have := congrArg (List.drop (codeT h []).1.length) h1
    rw [List.drop_drop, List.drop_left] at this
    exact this
  have hlen : gs.length < l.length := by
    rw [hl, enc_len hh.1.kinds fun g hm => (hg g hm).1.kinds]
    omega
  obtain ⟨j, hj⟩ := goals_read hD hVl gs c.2 [] l.length _ hg hlen h2 (by rw [hp2]; exact List.prefix_refl _)
  exact dec_yes hr hcc (by rw [hj]; rfl) hE
end Go.Proofs.Ytlgeepjlnjlgdaa
namespace Go.Proofs.Ytlgeepjlnjlgdaa
open Go.RowKit

/-- A clause in memory: its head in a box, its goals in a row. -/
structure ClM (w W : World) (X : Nat) (gv : Value) (th : T) (gs : List T) (S P : Nat → Prop) (B : Nat) (qs : List Q6) (h0 h1 : Int) (h2 : ByteArray) (h3 : Option Addr) (h4 h5 : Nat) : Prop where
  box : W.heap[X]? = some (.cells #[.int .i64 h0, .int .i64 h1, .string h2, .slice h3 h4 h5] 24 (0, 0))
  tp : TP W S th (.agg #[.int .i64 h0, .int .i64 h1, .string h2, .slice h3 h4 h5])
  tl : TL W B S P gv gs qs
  lt : ∀ b, S b → b < X
  low : Below w.heap.size w W
  ge : w.heap.size ≤ X
  good : th.good ∧ (∀ g ∈ gs, g.good) ∧ th.nodes ≤ 1001 ∧ nodesL gs ≤ 2002
  kc : Hid (th.kindC ∧ th.nodes ≤ 1000 ∧ (∀ g ∈ gs, g.kindC ∧ g.nodes ≤ 1000) ∧ th.nodes + gs.length + nodesL gs ≤ 3010)
theorem ClM.below {w W W' : World} {X : Nat} {gv : Value} {th : T} {gs : List T} {S P : Nat → Prop} {B : Nat} {qs : List Q6} {h0 h1 : Int} {h2 : ByteArray} {h3 : Option Addr} {h4 h5 : Nat} (h : ClM w W X gv th gs S P B qs h0 h1 h2 h3 h4 h5) (hb : Below W.heap.size W W') : ClM w W' X gv th gs S P B qs h0 h1 h2 h3 h4 h5 :=
  ⟨(hb.block X (heap_lt h.box)).trans h.box, h.tp.below hb, h.tl.below hb, h.lt, h.low.trans (hb.mono h.low.size), h.ge, h.good, h.kc⟩
theorem nodes_le : ∀ {gs : List T} {g : T}, g ∈ gs → g.nodes ≤ nodesL gs
  | x :: gs, g, h => by
    simp only [nodesL, List.map_cons, List.sum_cons]
    rcases List.mem_cons.1 h with rfl | h
    · omega
    · have := nodes_le h
      simp only [nodesL] at this
      omega
theorem sum_list : ∀ (l : List T), sumTo l.length (fun i => (l.getD i .nil).nodes) = nodesL l := by
  intro l
  have key : ∀ (q : Nat), q ≤ l.length → sumTo q (fun i => (l.getD i .nil).nodes) = nodesL (l.take q) := by
    intro q
    induction q with
    | zero => intro _; simp [sumTo, nodesL]
    | succ q ih =>
      intro hq
      have hq' : q < l.length := by omega
      simp only [sumTo]
      rw [ih (by omega), List.take_succ_eq_append_getElem hq', nodesL_app]
      simp [nodesL, List.getD_eq_getElem?_getD, hq']
  have := key l.length (Nat.le_refl _)
  rwa [List.take_length] at this
theorem whole_ok {th : T} {gs : List T} (h : th.ok) (hg : ∀ g ∈ gs, g.ok) (hn : th.nodes ≤ 1001) (hs : nodesL gs ≤ 2002) : (wholeT th gs).ok := by
  have hs1 := sum_list (th :: gs)
  refine ⟨⟨.inr (.inr (.inr ⟨rfl, rfl, by decide, by omega⟩)), fun i hi => ?_⟩, ?_⟩
  · have hi' : i < (th :: gs).length := by simpa using hi
    simp only [List.getD_eq_getElem?_getD, List.getElem?_eq_getElem hi', Option.getD_some]
    rcases List.mem_cons.1 (List.getElem_mem hi') with h1 | h1
    · rw [h1]; exact h.1
    · exact (hg _ h1).1
  · show 1 + sumTo (gs.length + 1) (fun i => ((th :: gs).getD i .nil).nodes) ≤ 4000
    have e : sumTo (gs.length + 1) (fun i => ((th :: gs).getD i .nil).nodes) = nodesL (th :: gs) := hs1
    rw [e]
    simp only [nodesL, List.map_cons, List.sum_cons] at hs ⊢
    omega
theorem a_good : (T.mk 3 0 ⟨#[97]⟩ 0 fun _ => .nil).good := ⟨.inr (.inr (.inl ⟨rfl, rfl, by decide, rfl⟩)), fun i h => absurd h (by omega)⟩
end Go.Proofs.Ytlgeepjlnjlgdaa
namespace Go.Proofs.Ytlgeepjlnjlgdaa
open Go.RowKit

/-- One instruction such as a clause has. -/
def InOne (x : Ins) : Prop := I64 x.a ∧ nameOk x.s ∧ (x.o = 2 ∨ x.o = 3 → x.a < 1000)
theorem no_name : nameOk ⟨#[]⟩ := by decide
theorem small_in {n : Nat} (h : n ≤ 10000) : I64 (n : Int) := by unfold I64; omega
theorem codeT_in : ∀ (t : T), t.good → t.nodes ≤ 4000 → ∀ (vs : List Int), (codeT t vs).2.length ≤ 1000 → ∀ x ∈ (codeT t vs).1, InOne x
  | .nil, h, _, _, _, _, _ => h.elim
  | .mk k n s m a, h, hn, vs, hl, x, hx => by
    rcases h.1 with ⟨rfl, h2, h3, rfl, rfl⟩ | ⟨rfl, h2, rfl, rfl⟩ | ⟨rfl, rfl, h2, rfl⟩ | ⟨rfl, rfl, h2, h3⟩
    · unfold codeT at hl hx
      rw [if_pos rfl] at hl hx
      cases hp : plN vs n 0 with
      | some j =>
        rw [hp] at hl hx
        have := (plN_lt hp).2.1
        rw [List.mem_singleton] at hx
        subst hx
        have hl' : vs.length ≤ 1000 := hl
        exact ⟨small_in (by omega), no_name, fun _ => by show (j : Int) < 1000; omega⟩
      | none =>
        rw [hp] at hl hx
        rw [List.mem_singleton] at hx
        subst hx
        have hl' : (vs ++ [n]).length ≤ 1000 := hl
        rw [List.length_append] at hl'
        simp at hl'
        exact ⟨small_in (by omega), no_name, fun _ => by show (vs.length : Int) < 1000; omega⟩
    · have e : (codeT (.mk 2 n ⟨#[]⟩ 0 a) vs).1 = [⟨4, n, ⟨#[]⟩⟩] := rfl
      rw [e, List.mem_singleton] at hx
      subst hx
      exact ⟨h2, no_name, fun h => by rcases h with h | h <;> cases h⟩
    · have e : (codeT (.mk 3 0 s 0 a) vs).1 = [⟨5, 0, s⟩] := rfl
      rw [e, List.mem_singleton] at hx
      subst hx
      exact ⟨by show I64 0; unfold I64; omega, h2, fun h => by rcases h with h | h <;> cases h⟩
    · rw [code_cmp] at hl hx
      have hm : m ≤ 4000 := by
        have h1 : sumTo m (fun i => (a i).nodes) ≤ 3999 := by simp only [T.nodes] at hn; omega
        have h2 : m ≤ sumTo m (fun i => (a i).nodes) := by
          have key : ∀ q, q ≤ m → q ≤ sumTo q (fun i => (a i).nodes) := by
            intro q
            induction q with
            | zero => exact fun _ => Nat.zero_le _
            | succ q ih =>
              intro hq
              have := ih (by omega)
              have := (h.2 q (by omega)).pos
              simp only [sumTo]
              omega
          exact key m (Nat.le_refl _)
        omega
      have key : ∀ i, i ≤ m → ∀ x ∈ (foldC i (fun i => codeT (a i)) ([⟨6, (m : Int), s⟩], vs)).1, InOne x := by
        intro i
        induction i with
        | zero =>
          intro _ x hx
          have hx' : x ∈ [(⟨6, (m : Int), s⟩ : Ins)] := hx
          rw [List.mem_singleton] at hx'
          subst hx'
          exact ⟨small_in (by omega), h2, fun h => by rcases h with h | h <;> cases h⟩
        | succ i ih =>
          intro hi x hx
          have hp := (fold_pre (f := fun i => codeT (a i)) (r := ([⟨6, (m : Int), s⟩], vs)) (m := m) (i := i + 1) (fun i vs hi => codeT_grow (a i) (h.2 i hi).kinds vs) hi).length_le
          have hx' : x ∈ (foldC i (fun i => codeT (a i)) ([⟨6, (m : Int), s⟩], vs)).1 ++ (codeT (a i) (foldC i (fun i => codeT (a i)) ([⟨6, (m : Int), s⟩], vs)).2).1 := hx
          rcases List.mem_append.1 hx' with hx' | hx'
          · exact ih (by omega) x hx'
          · have hni : (a i).nodes ≤ 4000 := by
              have h1 := sumTo_one (f := fun i => (a i).nodes) (show i < m by omega)
              simp only [T.nodes] at hn
              omega
            exact codeT_in (a i) (h.2 i (by omega)) hni _ (Nat.le_trans hp hl) x hx'
      exact key m (Nat.le_refl _) x hx
theorem codeG_in : ∀ (gs : List T) (r : List Ins × List Int), (∀ g ∈ gs, g.good ∧ g.nodes ≤ 4000) → (codeG gs r).2.length ≤ 1000 → (∀ x ∈ r.1, InOne x) → ∀ x ∈ (codeG gs r).1, InOne x
  | [], _, _, _, h => h
  | g :: gs, r, hg, hl, h => by
    have hp := (codeG_grow gs (r.1 ++ [⟨7, 0, ⟨#[]⟩⟩] ++ (codeT g r.2).1, (codeT g r.2).2) fun x hx => (hg x (List.mem_cons_of_mem _ hx)).1.kinds).length_le
    refine codeG_in gs _ (fun x hx => hg x (List.mem_cons_of_mem _ hx)) hl fun x hx => ?_
    rcases List.mem_append.1 hx with hx | hx
    · rcases List.mem_append.1 hx with hx | hx
      · exact h x hx
      · rw [List.mem_singleton] at hx
        subst hx
        exact ⟨by show I64 0; unfold I64; omega, no_name, fun h => by rcases h with h | h <;> cases h⟩
    · have hg0 := hg g List.mem_cons_self
      exact codeT_in g hg0.1 hg0.2 r.2 (Nat.le_trans hp hl) x hx
theorem enc_in1 {h : T} {gs : List T} (hh : h.good ∧ h.nodes ≤ 4000) (hg : ∀ g ∈ gs, g.good ∧ g.nodes ≤ 4000) (hv : (varsT (wholeT h gs)).length ≤ 1000) : ∀ x ∈ encN h gs, InOne x := by
  have he := enc_vars hh.1.kinds fun g hm => (hg g hm).1.kinds
  have hl : (codeG gs (codeT h [])).2.length ≤ 1000 := by rw [he]; exact hv
  have hp := (codeG_grow gs (codeT h []) fun x hx => (hg x hx).1.kinds).length_le
  intro x hx
  unfold encN at hx
  rcases List.mem_append.1 hx with hx | hx
  · rcases List.mem_append.1 hx with hx | hx
    · rw [List.mem_singleton] at hx
      subst hx
      exact ⟨small_in (by omega), no_name, fun h => by rcases h with h | h <;> cases h⟩
    · exact codeG_in gs _ hg hl (codeT_in h hh.1 hh.2 [] (Nat.le_trans hp hl)) x hx
  · rw [List.mem_singleton] at hx
    subst hx
    exact ⟨by show I64 0; unfold I64; omega, no_name, fun h => by rcases h with h | h <;> cases h⟩
theorem in_of {l : List Ins} (hf : l.length ≤ 6000) (h : ∀ x ∈ l, InOne x) : InsIn l := ⟨hf, fun x hx => (h x hx).1, fun x hx => (h x hx).2.1, fun x hx => (h x hx).2.2⟩
theorem sumL_map {V : List Int} (hV : V.length ≤ 1000) : ∀ (gs : List T), (∀ g ∈ gs, g.good) → nodesL (gs.map (renT V)) = nodesL gs
  | [], _ => rfl
  | g :: gs, h => by
    have := sumL_map hV gs fun x hx => h x (List.mem_cons_of_mem _ hx)
    simp only [nodesL, List.map_cons, List.sum_cons] at this ⊢
    rw [this, (ren_good hV (h g List.mem_cons_self)).2.1]
/-- All that the laws want of a clause. -/
structure CFacts (th : T) (gs : List T) (V : List Int) : Prop where
  ok : th.ok ∧ (∀ g ∈ gs, g.ok) ∧ gs.length ≤ 2002
  whole : (wholeT th gs).ok
  few : V.length ≤ 1000
  ins : InsIn (encN th gs)
  dec : decR (rdT (encN th gs) 1000) (encN th gs) = some (renT V th, gs.map (renT V))
  rok : (renT V th).ok ∧ (∀ g ∈ gs.map (renT V), g.ok) ∧ (wholeT (renT V th) (gs.map (renT V))).ok
  len : (encN th gs).length ≤ 3012
  one : ∀ x ∈ encN th gs, InOne x
  eqv : eqT (numT (varsT (wholeT th gs)) (wholeT th gs)) (numT (varsT (wholeT (renT V th) (gs.map (renT V)))) (wholeT (renT V th) (gs.map (renT V))))
  enc : encN (renT V th) (gs.map (renT V)) = encN th gs
theorem cfacts {th : T} {gs : List T} {V : List Int} (hg : th.good ∧ (∀ g ∈ gs, g.good) ∧ th.nodes ≤ 1001 ∧ nodesL gs ≤ 2002) (hk : th.kindC ∧ th.nodes ≤ 1000 ∧ (∀ g ∈ gs, g.kindC ∧ g.nodes ≤ 1000) ∧ th.nodes + gs.length + nodesL gs ≤ 3010) (hV : V = varsT (wholeT th gs)) : CFacts th gs V := by
  obtain ⟨g1, g2, g3, g4⟩ := hg
  obtain ⟨k1, k2, k3, k4⟩ := hk
  have hok : th.ok := ⟨g1, by omega⟩
  have hoks : ∀ g ∈ gs, g.ok := fun g hm => ⟨g2 g hm, by have := (k3 g hm).2; omega⟩
  have hlen : gs.length ≤ 2002 := Nat.le_trans (nodesL_len gs g2) g4
  have hw := whole_ok hok hoks g3 g4
  have hfew : V.length ≤ 1000 := by rw [hV]; exact varsT_few hw
  have hR := ren_good hfew g1
  have hS := sumL_map hfew gs g2
  have rok : (renT V th).ok := ⟨hR.1, by rw [hR.2.1]; omega⟩
  have roks : ∀ g ∈ gs.map (renT V), g.ok := fun g hm => by
    obtain ⟨x, hx, rfl⟩ := List.mem_map.1 hm
    have hx2 := ren_good hfew (g2 x hx)
    exact ⟨hx2.1, by rw [hx2.2.1]; have := (k3 x hx).2; omega⟩
  have he := enc_ren g1 g2 hw.thin hV hfew
  have hone := enc_in1 ⟨g1, by omega⟩ (fun g hm => ⟨g2 g hm, by have := (k3 g hm).2; omega⟩) (by rw [← hV]; exact hfew)
  refine ⟨⟨hok, hoks, hlen⟩, hw, hfew, in_of ?_ hone, dec_enc rfl ⟨g1, k1, k2⟩ (fun g hm => ⟨g2 g hm, k3 g hm⟩) hw.thin hV hfew, ⟨rok, roks, whole_ok rok roks (by rw [hR.2.1]; exact g3) (by rw [hS]; exact g4)⟩, ?_, hone, hV ▸ he.1, he.2⟩
  all_goals
    rw [enc_len g1.kinds fun g hm => (g2 g hm).kinds]
    omega
end Go.Proofs.Ytlgeepjlnjlgdaa
