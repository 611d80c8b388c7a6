/- Parts of the proof, put together by a program. -/
import Derived.Shelf.Strings.OnBuilder
import Derived.Shelf.Strconv.Itoa3
import Derived.Test.YtabmhfmglhjmjaaGreatDoorProg
import Derived.KernelRfl
import Derived.Test.YtabmhfmglhjmjaaGreatDoorYac
import Derived.Test.YtabmhfmglhjmjaaGreatDoorYak
namespace Go.Proofs
open Go.Shelf
def Tryz.layItoa_ren : Go.Shelf.Ren := ⟨fun | 171 => 129 | 243 => 156 | 246 => 198 | 283 => 223 | 284 => 224 | 285 => 225 | 286 => 226 | 129 => 173 | 317 => 249 | 318 => 250 | 319 => 251 | 320 => 252 | 337 => 260 | 338 => 261 | n => n, fun | 3 => 3 | 9 => 9 | 2 => 2 | 4 => 4 | 171 => 265 | 0 => 0 | 53 => 228 | 37 => 197 | 5 => 5 | 173 => 267 | 212 => 287 | 51 => 226 | 20 => 20 | 213 => 288 | 46 => 194 | 232 => 302 | 233 => 303 | n => n, fun | 17 => 3 | 18 => 6 | 19 => 7 | n => n⟩
theorem Tryz.layItoa : Go.Proofs.Lays.n171 Tryz.prog Tryz.layItoa_ren := {
  mixed := by kernel_rfl
  f129 := Tryz.func173.trans (congrArg some (by kernel_rfl))
  f171 := Tryz.func129.trans (congrArg some (by kernel_rfl))
  f243 := Tryz.func156.trans (congrArg some (by kernel_rfl))
  f246 := Tryz.func198.trans (congrArg some (by kernel_rfl))
  f283 := Tryz.func223.trans (congrArg some (by kernel_rfl))
  f284 := Tryz.func224.trans (congrArg some (by kernel_rfl))
  f285 := Tryz.func225.trans (congrArg some (by kernel_rfl))
  f286 := Tryz.func226.trans (congrArg some (by kernel_rfl))
  f317 := Tryz.func249.trans (congrArg some (by kernel_rfl))
  f318 := Tryz.func250.trans (congrArg some (by kernel_rfl))
  f319 := Tryz.func251.trans (congrArg some (by kernel_rfl))
  f320 := Tryz.func252.trans (congrArg some (by kernel_rfl))
  f337 := Tryz.func260.trans (congrArg some (by kernel_rfl))
  f338 := Tryz.func261.trans (congrArg some (by kernel_rfl))
  t0 := Tryz.underlying0
  a0 := Tryz.isAgg0
  z0 := Tryz.sizeOf0
  v0 := Tryz.zeroValue0
  t2 := Tryz.underlying2
  a2 := Tryz.isAgg2
  z2 := Tryz.sizeOf2
  v2 := Tryz.zeroValue2
  t3 := Tryz.underlying3
  a3 := Tryz.isAgg3
  z3 := Tryz.sizeOf3
  v3 := Tryz.zeroValue3
  t4 := Tryz.underlying4
  a4 := Tryz.isAgg4
  z4 := Tryz.sizeOf4
  v4 := Tryz.zeroValue4
  t5 := Tryz.underlying5
  a5 := Tryz.isAgg5
  z5 := Tryz.sizeOf5
  v5 := Tryz.zeroValue5
  t9 := Tryz.underlying9
  a9 := Tryz.isAgg9
  z9 := Tryz.sizeOf9
  v9 := Tryz.zeroValue9
  t20 := Tryz.underlying20
  a20 := Tryz.isAgg20
  z20 := Tryz.sizeOf20
  v20 := Tryz.zeroValue20
  t37 := Tryz.underlying197
  a37 := Tryz.isAgg197
  z37 := Tryz.sizeOf197
  v37 := Tryz.zeroValue197
  t46 := Tryz.underlying194
  a46 := Tryz.isAgg194
  z46 := Tryz.sizeOf194
  v46 := Tryz.zeroValue194
  t51 := Tryz.underlying226
  a51 := Tryz.isAgg226
  z51 := Tryz.sizeOf226
  v51 := Tryz.zeroValue226
  t53 := Tryz.underlying228
  a53 := Tryz.isAgg228
  z53 := Tryz.sizeOf228
  v53 := Tryz.zeroValue228
  t171 := Tryz.underlying265
  a171 := Tryz.isAgg265
  z171 := Tryz.sizeOf265
  v171 := Tryz.zeroValue265
  t173 := Tryz.underlying267
  a173 := Tryz.isAgg267
  z173 := Tryz.sizeOf267
  v173 := Tryz.zeroValue267
  t212 := Tryz.underlying287
  a212 := Tryz.isAgg287
  z212 := Tryz.sizeOf287
  v212 := Tryz.zeroValue287
  t213 := Tryz.underlying288
  a213 := Tryz.isAgg288
  z213 := Tryz.sizeOf288
  t232 := Tryz.underlying302
  a232 := Tryz.isAgg302
  z232 := Tryz.sizeOf302
  v232 := Tryz.zeroValue302
  t233 := Tryz.underlying303
  a233 := Tryz.isAgg303
  z233 := Tryz.sizeOf303
  v233 := Tryz.zeroValue303
  g17 := by kernel_rfl
  g18 := by kernel_rfl
  g19 := by kernel_rfl }
def Tryz.layJoin_ren : Go.Shelf.Ren := ⟨fun | 156 => 130 | 165 => 157 | 166 => 158 | 169 => 159 | 240 => 199 | 241 => 200 | 276 => 227 | 277 => 228 | n => n, fun | 31 => 37 | 9 => 9 | 3 => 3 | 4 => 4 | 0 => 0 | 20 => 20 | 72 => 212 | 76 => 205 | 70 => 210 | 37 => 197 | 75 => 204 | 127 => 243 | 164 => 269 | 5 => 5 | 80 => 214 | n => n, fun | n => n⟩
theorem Tryz.layJoin : Go.Proofs.Lays.n156 Tryz.prog Tryz.layJoin_ren := {
  mixed := by kernel_rfl
  f156 := Tryz.func130.trans (congrArg some (by kernel_rfl))
  f165 := Tryz.func157.trans (congrArg some (by kernel_rfl))
  f166 := Tryz.func158.trans (congrArg some (by kernel_rfl))
  f169 := Tryz.func159.trans (congrArg some (by kernel_rfl))
  f240 := Tryz.func199.trans (congrArg some (by kernel_rfl))
  f241 := Tryz.func200.trans (congrArg some (by kernel_rfl))
  f276 := Tryz.func227.trans (congrArg some (by kernel_rfl))
  f277 := Tryz.func228.trans (congrArg some (by kernel_rfl))
  t0 := Tryz.underlying0
  a0 := Tryz.isAgg0
  z0 := Tryz.sizeOf0
  v0 := Tryz.zeroValue0
  t3 := Tryz.underlying3
  a3 := Tryz.isAgg3
  z3 := Tryz.sizeOf3
  v3 := Tryz.zeroValue3
  t4 := Tryz.underlying4
  a4 := Tryz.isAgg4
  z4 := Tryz.sizeOf4
  v4 := Tryz.zeroValue4
  t9 := Tryz.underlying9
  a9 := Tryz.isAgg9
  z9 := Tryz.sizeOf9
  v9 := Tryz.zeroValue9
  t20 := Tryz.underlying20
  a20 := Tryz.isAgg20
  z20 := Tryz.sizeOf20
  v20 := Tryz.zeroValue20
  t31 := Tryz.underlying37
  a31 := Tryz.isAgg37
  z31 := Tryz.sizeOf37
  v31 := Tryz.zeroValue37
  t37 := Tryz.underlying197
  a37 := Tryz.isAgg197
  z37 := Tryz.sizeOf197
  v37 := Tryz.zeroValue197
  t70 := Tryz.underlying210
  a70 := Tryz.isAgg210
  z70 := Tryz.sizeOf210
  v70 := Tryz.zeroValue210
  t72 := Tryz.underlying212
  a72 := Tryz.isAgg212
  z72 := Tryz.sizeOf212
  v72 := Tryz.zeroValue212
  t75 := Tryz.underlying204
  a75 := Tryz.isAgg204
  z75 := Tryz.sizeOf204
  v75 := Tryz.zeroValue204
  t76 := Tryz.underlying205
  a76 := Tryz.isAgg205
  z76 := Tryz.sizeOf205
  v76 := Tryz.zeroValue205
  t127 := Tryz.underlying243
  a127 := Tryz.isAgg243
  z127 := Tryz.sizeOf243
  v127 := Tryz.zeroValue243
  t164 := Tryz.underlying269
  a164 := Tryz.isAgg269
  z164 := Tryz.sizeOf269
  v164 := Tryz.zeroValue269 }
end Go.Proofs
set_option maxRecDepth 100000
set_option maxHeartbeats 4000000
set_option linter.unusedSimpArgs false
set_option linter.unusedVariables false
set_option linter.unusedSectionVars false
namespace Go.Proofs.YtabmhfmglhjmjaaGreatDoor
open Go.Ab Go.RowKit Go.Shelf Go.Proofs
theorem bldX : Builder.Extra Tryz.prog Tryz.layJoin_ren where
  sizeBuilder := by kernel_rfl
  liesBuilder := by kernel_rfl
  t5 := Tryz.underlying5
  a5 := Tryz.isAgg5
  z5 := Tryz.sizeOf5
  v5 := Tryz.zeroValue5
  infoByte := by kernel_rfl
  cellsByte := by kernel_rfl
  sizeByte := by kernel_rfl
  neB5 := by decide
class Lo [Dr] : Prop where
  h : Dr.loose
variable [Dr] [Lo]
def dec7 (i : Nat) : ByteArray := ⟨(Lib.decDigits i).toArray⟩
theorem c_Itoa (i : Nat) (hi : i < 100) : Pure Tryz.prog 129 [iv i] (AV.v (.string (dec7 i))) := by
  refine ⟨Tryz.call129, fun O w vs hr hO => ?_⟩
  obtain ⟨u, hu, h0⟩ := hr.2 0 _ rfl
  obtain rfl := h0.v_inv
  have hvs : vs = #[.int .i64 i] := by
    refine Array.ext_getElem? fun j => ?_
    match j with
    | 0 => simpa using hu
    | j + 1 =>
      have : vs.size = 1 := hr.1
      rw [Array.getElem?_eq_none (by omega), Array.getElem?_eq_none (by simp)]
  subst hvs
  exact (Any.strconv_Itoa_small Tryz.layItoa i hi w).mono fun e w' ⟨he, hw⟩ => by
    subst hw
    exact ⟨_, he, Gr.refl _, Rp.v _⟩
def join7 (xs : List ByteArray) (sep : ByteArray) : ByteArray := ⟨(Lib.join (xs.map (·.data.toList)) sep.data.toList).toArray⟩
theorem c_Join (xs : List ByteArray) (sep : ByteArray) (h1 : 1 ≤ xs.length) (hl : xs.length ≤ 1000) (hs : (Lib.join (xs.map (·.data.toList)) sep.data.toList).length ≤ 140737488355328) :
    Pure Tryz.prog 130 [ssl xs, AV.v (.string sep)] (AV.v (.string (join7 xs sep))) := by
  refine ⟨Tryz.call130, fun O w vs hr hO => ?_⟩
  obtain ⟨u, hu, h0⟩ := hr.2 0 _ rfl
  obtain ⟨u1, hu1, h2⟩ := hr.2 1 _ rfl
  obtain rfl := h2.v_inv
  have hsl := strs_len xs
  have hat : ∀ (j : Nat) (x : ByteArray), xs[j]? = some x → (strs xs)[j]? = some (.v (.string x)) := fun j x hx => by
    unfold strs
    rw [List.getElem?_map, hx]; rfl
  have fin : ∀ (b off cap : Nat), u = .slice (some ⟨b, off, none⟩) xs.length cap → xs.length ≤ cap → b < w.heap.size → (∀ (j : Nat) (x : ByteArray), xs[j]? = some x → w.cell? ⟨b, off + j, none⟩ = some (.string x)) →
      Calls Tryz.prog 130 vs w (fun e w' => ∃ u, e = .returned u ∧ Gr w w' ∧ Rp O w' (.v (.string (join7 xs sep))) u) := by
    intro b off cap hu2 hcap hb hc
    have hvs : vs = #[.slice (some ⟨b, off, none⟩) xs.length cap, .string sep] := by
      refine Array.ext_getElem? fun j => ?_
      match j with
      | 0 => rw [hu, hu2]; rfl
      | 1 => rw [hu1]; rfl
      | j + 2 =>
        have : vs.size = 2 := hr.1
        rw [Array.getElem?_eq_none (by omega), Array.getElem?_eq_none (by simp)]
    subst hvs
    exact (Any.strings_Join Tryz.layJoin bldX b off cap xs sep w hc hb (by omega) hcap hs).mono fun e w' ⟨he, hw⟩ => ⟨_, he, Gr.of_below hw (.inl Lo.h), Rp.v _⟩
  have h0' : Rp O w (.sl 1 xs.length (strs xs)) u := h0
  clear h0 hu hu1
  generalize hN : xs.length = N at h0' h1 fin
  generalize hC : strs xs = C at h0' hat
  cases h0' with
  | nla sz a => omega
  | sl sz n cs b off cap f hO hb hn hl hc hr0 =>
    refine fin b off cap rfl hn hb fun j x hx => ?_
    have h3 := hc j _ (hat j x hx)
    have h4 := hr0 j _ (hat j x hx)
    have h5 : f j = .string x := Rp.v_inv h4
    rw [h3, h5]
instance drL : Dr := ⟨True, fun _ _ => True, fun _ h => h, fun _ _ h => h⟩
instance loL : @Lo drL := @Lo.mk drL True.intro
end Go.Proofs.YtabmhfmglhjmjaaGreatDoor
set_option linter.unusedSimpArgs false
set_option linter.unusedVariables false
set_option linter.unusedSectionVars false
namespace Go.Ab
variable [Dr]
open Go.RowKit
def gal (g : Gh) (b : Nat) (ob : Obj) : Gh where
  B0 := fun x => g.B0 x ∨ x = b
  O0 := g.O0
  inv := fun O w => g.inv O w ∧ w.heap[b]? = some ob
  mark := g.mark
  stab := fun O w O' w' h t pr => ⟨g.stab _ _ _ _ h.1 t (pr.mono fun _ hb => .inl hb), by rw [pr.block b (.inr rfl)]; exact h.2⟩
  p := g.p
  βp := g.βp
  Op := g.Op
  wp := g.wp
  hp := g.hp
abbrev ptr0 (b : Nat) : Value := .pointer (some ⟨b, 0, none⟩)
theorem al_in {g : Gh} {β : Bt} {O : Nat → Prop} {f : Nat → Option AV} {H : Hp} {nx : Nat} {n : Nat × Nat × Nat} {a : Act} {w : World} {s : Nat} (h : Cf g β O f H nx n a w) (hs : s < n.1) (arr : Array Value) (e : TypeId) :
    Cf (gal g w.heap.size (Obj.cells arr e (0, 0))) β (fun b => O b ∨ b = w.heap.size) (updF f (some s) (.v (ptr0 w.heap.size))) H nx n (a.put (some s) (ptr0 w.heap.size)) (w.alloc (.cells arr e)) := by
  obtain ⟨h1, h2, hp, h3, h4⟩ := hc_new h.hc h.b0 (c := []) (arr := arr) e (by simp) (fun j x hx => by simp at hx)
  refine Cf.put (d := some s) hs (R.vv _) ⟨?_, fun t av ht => let ⟨u, p, q⟩ := h.fr t av ht; ⟨u, p, q.mono h2 (fun _ _ h => h)⟩, h.sz, ⟨fun k c hk => ?_, h.hc.inj, hp.bk h.hc.own, fun b hb => ⟨.inl (h.hc.base b hb).1, .inl (h.hc.base b hb).2⟩, h.hc.free, h.hc.fresh⟩,
    ⟨g.stab _ _ _ _ h.inv h2 hp, h4⟩, fun b hb => hb.elim (fun h' => Nat.lt_of_lt_of_le (h.b0 b h') h2.size) (fun e => by rw [e]; exact lt_of_get h4), h.pp, h.prot, h.tr.trans h2⟩
  · have hd := h.defers.tr h2
    obtain ⟨Ds, d1, d2, d3⟩ := hd.ds
    refine ⟨hd.may, Ds, d1, d2, fun D hD => ?_⟩
    obtain ⟨q1, q2, q3⟩ := d3 D hD
    refine ⟨q1, fun hb => hb.elim q2 fun e => ?_, q3⟩
    rw [e, h4] at q3
    cases q3
  · rcases h.hc.row k c hk with q | ⟨b, st, q1, q2, q3, q4⟩
    · exact .inl q
    · refine .inr ⟨b, st, q1, .inl q2, fun hb => hb.elim q3 fun e => ?_, q4.mono h2 (fun _ _ h => h) ?_⟩
      · have := q4.lt; omega
      · have := q4.lt
        exact Below.heap_alloc _ _ _ this
theorem al_out {g : Gh} {β : Bt} {O : Nat → Prop} {f : Nat → Option AV} {H : Hp} {nx : Nat} {n : Nat × Nat × Nat} {a : Act} {w : World} {s b : Nat} {arr : Array Value} {e : TypeId} {zs : List AV} (h : Cf (gal g b (Obj.cells arr e (0, 0))) β O f H nx n a w) (hO : O b) (hB : ¬ g.B0 b) (hO0 : ∀ b', g.O0 b' → g.B0 b')
    (hs : f s = some (.v (ptr0 b))) (hz : Rs β O w zs arr) : Cf g (fun k => if k = nx then some (some (b, 0)) else β k) O (updF f (some s) (.lp nx 0)) (hset H nx (some zs)) (nx + 1) n a w := by
  have hβ : ∀ k p, β k = some p → (fun k => if k = nx then some (some (b, 0)) else β k) k = some p := fun k p hk => by
    have : k ≠ nx := fun e => by rw [e, h.hc.fresh nx (Nat.le_refl _)] at hk; cases hk
    show (if _ = _ then _ else _) = _
    rw [if_neg this, hk]
  have old : ∀ k, k ≠ nx → hset H nx (some zs) k = H k := fun k hk => by rw [hset', show (nx == k) = false by simpa using Ne.symm hk]
  refine ⟨?_, fun t av ht => ?_, h.sz, ⟨fun k c hk => ?_, fun k k' b1 s1 s2 a1 a2 a3 a4 => ?_, h.hc.own, fun b' hb => ⟨(h.hc.base b' hb).1, hO0 b' hb⟩, fun k hk => ?_, fun k hk => ?_⟩, h.inv.1, fun b' hb => h.b0 b' (.inl hb), h.pp, fun k q hq => hβ _ _ (h.prot k q hq), h.tr⟩
  · obtain ⟨Ds, d1, d2, d3⟩ := h.defers.ds
    exact ⟨h.defers.may, Ds, d1, d2, fun D hD => let ⟨q1, q2, q3⟩ := d3 D hD; ⟨q1, fun hb => q2 (.inl hb), q3⟩⟩
  · simp only [updF] at ht
    by_cases es : s = t
    · subst es
      simp only [BEq.rfl, cond_true, Option.some.injEq] at ht
      subst ht
      obtain ⟨u, p, q⟩ := h.fr s _ hs
      refine ⟨u, p, ?_⟩
      rw [q.v_inv]
      exact .lp nx 0 b 0 (if_pos rfl)
    · rw [show (s == t) = false by simpa using es, cond_false] at ht
      obtain ⟨u, p, q⟩ := h.fr t av ht
      exact ⟨u, p, q.mono (Tr.refl _ _) hβ⟩
  · by_cases e1 : k = nx
    · subst e1
      rw [hset', beq_self_eq_true] at hk
      cases hk
      refine .inr ⟨b, 0, if_pos rfl, hO, hB, arr, e, h.inv.2, by rw [hz.1]; omega, fun j x hj => ?_⟩
      obtain ⟨u, p, q⟩ := hz.2 j x hj
      exact ⟨u, by rw [Nat.zero_add]; exact p, q.mono (Tr.refl _ _) hβ⟩
    · rw [old k e1] at hk
      rcases h.hc.row k c hk with q | ⟨b', st, q1, q2, q3, q4⟩
      · exact .inl ⟨hβ _ _ q.1, q.2⟩
      · exact .inr ⟨b', st, hβ _ _ q1, q2, fun hb => q3 (.inl hb), q4.mono (Tr.refl _ _) hβ rfl⟩
  · have a3' : (if k = nx then some (some (b, 0)) else β k) = some (some (b1, s1)) := a3
    have a4' : (if k' = nx then some (some (b, 0)) else β k') = some (some (b1, s2)) := a4
    have no : ∀ k st, k ≠ nx → hset H nx (some zs) k ≠ none → β k = some (some (b, st)) → False := fun k st e1 e2 e3 => by
      rw [old k e1] at e2
      cases hq : H k with
      | none => exact e2 hq
      | some c =>
        rcases h.hc.row k c hq with q | ⟨b', st', q1, q2, q3, q4⟩
        · rw [q.1] at e3; cases e3
        · rw [q1] at e3; cases e3; exact q3 (.inr rfl)
    by_cases e1 : k = nx <;> by_cases e2 : k' = nx
    · rw [e1, e2]
    · rw [if_pos e1] at a3'; rw [if_neg e2] at a4'
      cases a3'
      exact (no k' s2 e2 a2 a4').elim
    · rw [if_neg e1] at a3'; rw [if_pos e2] at a4'
      cases a4'
      exact (no k s1 e1 a1 a3').elim
    · rw [if_neg e1] at a3'; rw [if_neg e2] at a4'
      rw [old k e1] at a1
      rw [old k' e2] at a2
      exact h.hc.inj k k' b1 s1 s2 a1 a2 a3' a4'
  · rw [old k (by omega)]; exact h.hc.free k (by omega)
  · show (if _ = _ then _ else _) = _
    rw [if_neg (by omega)]
    exact h.hc.fresh k (by omega)
theorem head_alloc {ro : Option Nat} {fl : Bool} (hro : fl = true → ro = none) {P : Program} {ops : Array Oper} {k : Nat} (hb : ordB fl ops (k + 1) = true) {Q : Exit → Act → World → Prop} (hQ : ∀ c a w, ¬ Q (.panic c) a w) {g : Gh} {β : Bt} {O : Nat → Prop} {H : Hp} {nx : Nat} {n : Nat × Nat × Nat} {f : Nat → Option AV} {rs : List AV}
    (hlex : Lex P ops H nx n (ops.toList.take k) f rs) {ok : Oper} {s : Nat} {Z : Array Value → Prop} {e : TypeId} (hok : ops[k]? = some ok) (hnf : floB ok = false) (hgd : ok.guard = none) (hds : ok.dst = some s) (hsn : s < n.1)
    (hrun : ∀ (ev : Operand → Value) (w : World), ∃ arr, Z arr ∧ (execOp ev ok).run P w = .ok (.value (ptr0 w.heap.size)) (w.alloc (.cells arr e)))
    (htail : ∀ (arr : Array Value) (b : Nat) (O' : Nat → Prop) a w, Z arr → O' b → ¬ g.B0 b → (∀ b', g.O0 b' → g.B0 b') → Cf (gal g b (Obj.cells arr e (0, 0))) β O' (updF (foldX (fun _ => true) 0 (ops.toList.take k) rs f) (some s) (.v (ptr0 b))) H nx n a w → wpListIn (Fn ro) 0 P ops Q (ops.toList.drop (k + 1)) a w) :
    ∀ (fuel : Nat) (L : Array Bool) (a : Act) (w : World), Closed ops L → (∀ i, k + 1 ≤ i → L.getD i false = false) → ops.size ≤ fuel + (L.toList.countP (· == true)) →
      ((L.getD k false = false ∧ Cf g β O (foldX (fun i => L.getD i false) 0 (ops.toList.take k) rs f) H nx n a w) ∨
        (L.getD k false = true ∧ ∃ (arr : Array Value) (b : Nat) (O' : Nat → Prop), Z arr ∧ O' b ∧ ¬ g.B0 b ∧ (∀ b', g.O0 b' → g.B0 b') ∧ Cf (gal g b (Obj.cells arr e (0, 0))) β O' (updF (foldX (fun i => L.getD i false) 0 (ops.toList.take k) rs f) (some s) (.v (ptr0 b))) H nx n a w)) →
      wpAnyIn (Fn ro) 0 P .any ops Q fuel L a w := by
  obtain ⟨hlen, hat⟩ := hlex.at 0
  have hle := ordB_le hb
  have hget : ∀ i, i < k → ∀ o, ops[i]? = some o → (ops.toList.take k)[i]? = some o := fun i hi o ho => by
    rw [List.getElem?_take_of_lt hi]; simpa using ho
  have hgetk : ∀ i o, (ops.toList.take k)[i]? = some o → i < k ∧ ops[i]? = some o := fun i o ho => by
    have hi : i < k := by
      have := (List.getElem?_eq_some_iff.1 ho).1
      simp at this; omega
    exact ⟨hi, by rw [List.getElem?_take_of_lt hi] at ho; simpa using ho⟩
  intro fuel
  induction fuel with
  | zero =>
    intro L a w hc hhead hcount hcf
    have hall : ∀ i, i < ops.size → L.getD i false = true := by
      intro i hi
      have h1 : L.toList.countP (· == true) = L.toList.length := by
        have := List.countP_le_length (p := (· == true)) (l := L.toList)
        have h2 : L.toList.length = ops.size := by rw [Array.length_toList, hc.1]
        omega
      rw [List.countP_eq_length] at h1
      have hi' : i < L.size := by rw [hc.1]; exact hi
      have := h1 L[i] (by simp)
      rw [Array.getD_eq_getD_getElem?, Array.getElem?_eq_getElem hi']
      simpa using this
    have hh : k + 1 = ops.size := by
      rcases Nat.lt_or_ge (k + 1) ops.size with h' | h'
      · have h1 := hall (k + 1) h'
        rw [hhead (k + 1) (Nat.le_refl _)] at h1
        cases h1
      · omega
    have hk1 := hall k (by omega)
    rcases hcf with ⟨h0, _⟩ | ⟨_, arr, b, O', q0, q1, q2, q3, hcf⟩
    · rw [hk1] at h0; cases h0
    refine tail_any hb [] ops.size 0 L a w (by omega) (fun j => by simp) hc (fun i hi => by rw [hall i hi]; simp [hi]) (by simp) ?_
    have := htail arr b O' a w q0 q1 q2 q3 (by
      rw [foldX_congr (X := fun _ => true) (Y := fun i => L.getD i false) _ _ _ _ (fun i _ hi => by
        rw [hall i (by simp at hi; omega)])]
      exact hcf)
    rwa [List.drop_of_length_le (by simp; omega)] at this
  | succ fuel ih =>
    intro L a w hc hhead hcount hcf
    by_cases hall : ∀ i, i < k + 1 → L.getD i false = true
    · have hL : ∀ i, i < ops.size → L.getD i false = decide (i < k + 1) := by
        intro i hi
        by_cases hih : i < k + 1
        · rw [hall i hih]; simp [hih]
        · rw [hhead i (by omega)]; simp [hih]
      have hcnt : L.toList.countP (· == true) ≤ k + 1 := by
        have e : L.toList = (L.toList.take (k + 1)) ++ (L.toList.drop (k + 1)) := (List.take_append_drop (k + 1) _).symm
        rw [e, List.countP_append]
        have h1 : (L.toList.take (k + 1)).countP (· == true) ≤ k + 1 := Nat.le_trans (List.countP_le_length) (by rw [List.length_take]; exact Nat.min_le_left _ _)
        have h2 : (L.toList.drop (k + 1)).countP (· == true) = 0 := by
          rw [List.countP_eq_zero]
          intro x hx
          obtain ⟨i, hi⟩ := List.mem_iff_getElem?.1 hx
          rw [List.getElem?_drop] at hi
          have h3 := hhead (k + 1 + i) (by omega)
          rw [Array.getD_eq_getD_getElem?, ← Array.getElem?_toList, hi] at h3
          simpa using h3
        omega
      have hk1 := hall k (by omega)
      rcases hcf with ⟨h0, _⟩ | ⟨_, arr, b, O', q0, q1, q2, q3, hcf⟩
      · rw [hk1] at h0; cases h0
      refine tail_any hb (ops.toList.drop (k + 1)) (k + 1) (fuel + 1) L a w (Nat.le_refl _) (fun j => by rw [List.getElem?_drop]; simp) hc hL (by simp; omega) (htail arr b O' a w q0 q1 q2 q3 ?_)
      rw [foldX_congr (X := fun _ => true) (Y := fun i => L.getD i false) _ _ _ _ (fun i _ hi => by
        rw [hall i (by simp at hi; omega)])]
      exact hcf
    · have hne : ∃ i, i < k + 1 ∧ L.getD i false = false := by
        apply Classical.byContradiction
        intro hcon
        exact hall fun i hi => by
          cases hq : L.getD i false with
          | true => rfl
          | false => exact absurd ⟨i, hi, hq⟩ hcon
      obtain ⟨m, hm, hml⟩ := hne
      have hcntS : ∀ i, i < ops.size → L.getD i false = false → ops.size ≤ fuel + ((L.setIfInBounds i true).toList.countP (· == true)) := fun i hisz huf => by
        have hi' : i < L.size := by rw [hc.1]; exact hisz
        have hcnt : (L.setIfInBounds i true).toList.countP (· == true) = L.toList.countP (· == true) + 1 := by
          have hli : L.toList[i]'(by simpa using hi') = false := by
            rw [Array.getD_eq_getD_getElem?, Array.getElem?_eq_getElem hi'] at huf
            simpa using huf
          rw [Array.toList_setIfInBounds, List.countP_set (h := by simpa using hi'), hli]
          simp
        rw [hcnt]; omega
      have hheadS : ∀ i, i < k + 1 → ∀ j, k + 1 ≤ j → (L.setIfInBounds i true).getD j false = false := fun i hi j hj => by
        rw [Array.getD_eq_getD_getElem?, Array.getElem?_setIfInBounds_ne (by omega), ← Array.getD_eq_getD_getElem?]
        exact hhead j hj
      have hsetD : ∀ i j, i < ops.size → (L.setIfInBounds i true).getD j false = (L.getD j false || j == i) := fun i j hi => by
        rw [Array.getD_eq_getD_getElem?, Array.getElem?_setIfInBounds]
        by_cases hij : i = j
        · subst hij
          rw [if_pos rfl, if_pos (by rw [hc.1]; exact hi)]
          simp
        · rw [if_neg hij, ← Array.getD_eq_getD_getElem?]
          have : (j == i) = false := by simp; omega
          rw [this, Bool.or_false]
      have see : ∀ i o, i < k → ops[i]? = some o → L.getD i false = false → (∀ e ∈ o.after, Region.binds .any e = true → L.getD e.on false = true) →
          ∃ r, rs[i]? = some r ∧ dOk n o.dst ∧ Yf P ops H nx o (foldX (fun i => L.getD i false) 0 (ops.toList.take k) rs f) r ∧
            foldX (fun j => (L.setIfInBounds i true).getD j false) 0 (ops.toList.take k) rs f = updF (foldX (fun i => L.getD i false) 0 (ops.toList.take k) rs f) o.dst r := by
        intro i o hik' ho huf hp
        have hisz : i < ops.size := (Array.getElem?_eq_some_iff.1 ho).1
        obtain ⟨r, hr, hd, hy⟩ := hat i o (hget i hik' o ho)
        have hsame : ∀ t, t ∈ o.looksAt ops → foldX (fun j => decide (j < 0 + i)) 0 (ops.toList.take k) rs f t = foldX (fun i => L.getD i false) 0 (ops.toList.take k) rs f t := by
          refine fun t ht => ?_
          refine foldX_at _ _ _ _ _ (fun j oj hj hdst => ?_) rfl
          simp only [Nat.zero_add]
          obtain ⟨hjh, hoj⟩ := hgetk j oj hj
          rcases Nat.lt_trichotomy j i with hji | hji | hji
          · have e : decide (j < i) = true := by simpa using hji
            rw [e]
            rcases ordB_pair hb ho hoj hji with hbit | ⟨_, hap⟩ | ⟨_, _, _, hap⟩
            · exact (closed_anc hb hc i o ho hp j hbit).symm
            · exact absurd ht ((Oper.apart_spec hap).1 t hdst)
            · exact absurd ht ((Oper.apart_spec hap).1 t hdst)
          · subst hji
            rw [huf]; simp
          · have e : decide (j < i) = false := by simp; omega
            rw [e]
            cases hq : L.getD j false with
            | false => rfl
            | true =>
              rcases ordB_pair hb hoj ho hji with hbit | ⟨_, hap⟩ | ⟨_, _, _, hap⟩
              · have := closed_anc hb hc j oj hoj (hc.2 j oj hoj hq) i hbit
                rw [huf] at this
                cases this
              · exact absurd ht ((Oper.apart_spec hap).2.2 t hdst)
              · exact absurd ht ((Oper.apart_spec hap).2.2 t hdst)
        refine ⟨r, hr, hd, ⟨hy.1.congr hsame, fun hfl => (hy.2 hfl).congr hsame⟩, ?_⟩
        rw [foldX_congr (X := fun j => (L.setIfInBounds i true).getD j false) (Y := fun j => L.getD j false || j == 0 + i) _ _ _ _ (fun j _ _ => by rw [hsetD i j hisz, Nat.zero_add])]
        refine foldX_put _ _ 0 i o r f _ (hget i hik' o ho) hr (by simpa using huf) (fun j oj hj hij hX d hdo hdj => ?_)
        simp only [Nat.zero_add] at hX
        obtain ⟨hjh, hoj⟩ := hgetk j oj hj
        rcases ordB_pair hb hoj ho hij with hbit | ⟨_, hap⟩ | ⟨_, _, _, hap⟩
        · have := closed_anc hb hc j oj hoj (hc.2 j oj hoj hX) i hbit
          rw [huf] at this
          cases this
        · exact (Oper.apart_spec hap).2.1 d hdo hdj
        · exact (Oper.apart_spec hap).2.1 d hdo hdj
      have later : ∀ i o r, i < k → ops[i]? = some o → L.getD i false = false → L.getD k false = true → ∀ b,
          (∀ t, t ∈ o.looksAt ops → foldX (fun i => L.getD i false) 0 (ops.toList.take k) rs f t = updF (foldX (fun i => L.getD i false) 0 (ops.toList.take k) rs f) (some s) (.v (ptr0 b)) t) ∧
          updF (updF (foldX (fun i => L.getD i false) 0 (ops.toList.take k) rs f) (some s) (.v (ptr0 b))) o.dst r = updF (updF (foldX (fun i => L.getD i false) 0 (ops.toList.take k) rs f) o.dst r) (some s) (.v (ptr0 b)) := by
        intro i o r hik' ho huf h0 b
        have hap : o.apart ops ok = true := by
          rcases ordB_pair hb hok ho hik' with hbit | ⟨_, hap⟩ | ⟨_, _, _, hap⟩
          · have := closed_anc hb hc k ok hok (hc.2 k ok hok h0) i hbit
            rw [huf] at this
            cases this
          · exact hap
          · exact hap
        refine ⟨fun t ht => ?_, ?_⟩
        · have hst : s ≠ t := fun e => by subst e; exact (Oper.apart_spec hap).2.2 s hds ht
          simp only [updF]
          rw [show (s == t) = false by simpa using hst, cond_false]
        · cases hdo : o.dst with
          | none => rfl
          | some d =>
            have hne : d ≠ s := fun e => (Oper.apart_spec hap).2.1 d hdo (by rw [e]; exact hds)
            funext t
            simp only [updF]
            by_cases e1 : d = t
            · subst e1
              rw [show (s == d) = false by simpa using Ne.symm hne]
              simp
            · rw [show (d == t) = false by simpa using e1]
              simp
      have hkset : ∀ i, i < k → i < ops.size → (L.setIfInBounds i true).getD k false = L.getD k false := fun i hik' hisz => by
        rw [hsetD i k hisz]
        have : (k == i) = false := by simp; omega
        rw [this, Bool.or_false]
      by_cases hfloat : fl = true ∧ ∃ i o, i < k ∧ ops[i]? = some o ∧ i ∈ Region.ready .any ops L ∧ flB ops ops.toList ((ancs ops.toList []).getD i 0) i o = true
      · -- one that does not look at memory: first
        obtain ⟨hflt, i, o, hik', ho, hi, hfb⟩ := hfloat
        obtain ⟨o', ho', hu, hp⟩ := ready_pred hi
        rw [ho] at ho'; cases ho'
        have hisz : i < ops.size := (Array.getElem?_eq_some_iff.1 ho).1
        have huf : L.getD i false = false := by rw [getD_two (by rw [hc.1]; exact hisz) false true]; exact hu
        obtain ⟨r, hr, hd, hy, hfold⟩ := see i o hik' ho huf hp
        have hfo := flB_flo hfb
        have hwant : Region.wanted o (yielded ops a.tmps) = true := by simp [Region.wanted, floB_guard hfo]
        have hfree : ∀ (j : Nat) (oj : Oper), ops[j]? = some oj → j ≠ i → L.getD j true = false → (∀ e ∈ oj.after, Region.binds .any e = true → e.on ≠ i) → o.apart ops oj = true := fun j oj hj hji hun hno => by
          rcases flB_spec hfb hj hji with h1 | ⟨e, he, hbd, hon⟩ | h1
          · have h2 := closed_anc hb hc i o ho hp j h1
            rw [getD_two (by rw [hc.1]; exact (Array.getElem?_eq_some_iff.1 hj).1) false true, hun] at h2
            cases h2
          · exact absurd hon (hno e he hbd)
          · exact h1
        rcases hcf with ⟨h0, hcf⟩ | ⟨h0, arr, b, O', q0, q1, q2, q3, hcf⟩
        · obtain ⟨u, hrun, hru⟩ := hy.2 hfo β O w a.eval (fun x _ => hcf.ge x)
          refine wpAnyIn_first (oi := o) (v := u) (by rw [Fn_round]; exact hro hflt) ho (ordB_sel hb hflt) (fun c a w hq => absurd hq (hQ c _ w)) fuel L a w hfree hi ⟨.inl ⟨hwant, hrun⟩, fun w => floB_about hfo P w _⟩ ?_
          exact ih _ _ _ (closed_set hc hi) (hheadS i (by omega)) (hcntS i hisz huf) (.inl ⟨by rw [hkset i hik' hisz]; exact h0, by rw [hfold]; exact hcf.put hd hru⟩)
        · obtain ⟨hcg, hswap⟩ := later i o r hik' ho huf h0 b
          obtain ⟨u, hrun, hru⟩ := (hy.2 hfo).congr hcg β O' w a.eval (fun x _ => hcf.ge x)
          refine wpAnyIn_first (oi := o) (v := u) (by rw [Fn_round]; exact hro hflt) ho (ordB_sel hb hflt) (fun c a w hq => absurd hq (hQ c _ w)) fuel L a w hfree hi ⟨.inl ⟨hwant, hrun⟩, fun w => floB_about hfo P w _⟩ ?_
          exact ih _ _ _ (closed_set hc hi) (hheadS i (by omega)) (hcntS i hisz huf) (.inr ⟨by rw [hkset i hik' hisz]; exact h0, arr, b, O', q0, q1, q2, q3, by rw [hfold, ← hswap]; exact hcf.put hd hru⟩)
      refine ⟨fun hn => absurd hn (ready_of_left hb hc.1 m (by omega) hml), fun i hi => ?_⟩
      obtain ⟨o, ho, hu, hp⟩ := ready_pred hi
      have hisz : i < ops.size := (Array.getElem?_eq_some_iff.1 ho).1
      have huf : L.getD i false = false := by rw [getD_two (by rw [hc.1]; exact hisz) false true]; exact hu
      have hih : i < k + 1 := by
        rcases Nat.lt_or_ge i (k + 1) with h' | h'
        · exact h'
        · exfalso
          have hleft : ∀ m, m < k + 1 → L.getD m false = false → ∃ om, ops[m]? = some om ∧ fl = true ∧ flB ops ops.toList ((ancs ops.toList []).getD m 0) m om = true := by
            intro m hm hml
            have hmo := Array.getElem?_eq_getElem (show m < ops.size by omega)
            rcases ordB_pair hb ho hmo (show m < i by omega) with hbit | ⟨hbad, _⟩ | ⟨h1, _, h2, _⟩
            · have := closed_anc hb hc i o ho hp m hbit
              rw [hml] at this
              cases this
            · omega
            · exact ⟨_, hmo, h1, h2⟩
          have hfirst : ∀ m, m < k + 1 → L.getD m false = false → ∃ i o, i < k ∧ ops[i]? = some o ∧ i ∈ Region.ready .any ops L ∧ flB ops ops.toList ((ancs ops.toList []).getD i 0) i o = true := by
            intro m
            induction m using Nat.strongRecOn with
            | _ m ihm =>
              intro hm hml
              obtain ⟨om, hom, _, h2⟩ := hleft m hm hml
              by_cases hp' : ∃ e ∈ om.after, Region.binds .any e = true ∧ L.getD e.on false = false
              · obtain ⟨e, he, hbd, hf'⟩ := hp'
                have hlt := ordB_pred hb hom he hbd
                exact ihm e.on hlt (by omega) hf'
              · refine ⟨m, om, ?_, hom, mem_ready.2 ⟨by rw [getD_two (by rw [hc.1]; omega) true false]; exact hml, om, hom, fun e he hbd => by
                  cases hq : L.getD e.on false with
                  | true => rfl
                  | false => exact absurd ⟨e, he, hbd, hq⟩ hp'⟩, h2⟩
                rcases Nat.lt_or_ge m k with h3 | h3
                · exact h3
                · exfalso
                  have hmk : m = k := by omega
                  rw [hmk, hok] at hom
                  cases hom
                  rw [flB_flo h2] at hnf
                  cases hnf
          obtain ⟨_, _, hflt, _⟩ := hleft m hm hml
          exact hfloat ⟨hflt, hfirst m hm hml⟩
      unfold wpOpIn
      rw [ho]
      simp only
      by_cases hik : i = k
      · -- the allocation
        subst hik
        rw [hok] at ho
        cases ho
        have hwant : Region.wanted ok (yielded ops a.tmps) = true := by simp [Region.wanted, hgd]
        rw [if_pos hwant]
        rcases hcf with ⟨h0, hcf⟩ | ⟨h0, _⟩
        case inr => rw [huf] at h0; cases h0
        refine wpIn_run ?_
        obtain ⟨arr, hZ, hrn⟩ := hrun a.eval w
        rw [hrn]
        have hal := al_in hcf hsn arr e
        show wpAnyIn (Fn ro) 0 P .any ops Q fuel (L.setIfInBounds i true) (a.put ok.dst (ptr0 w.heap.size)) (w.alloc (.cells arr e))
        rw [hds]
        refine ih (L.setIfInBounds i true) (a.put (some s) (ptr0 w.heap.size)) (w.alloc (.cells arr e)) (closed_set hc hi) (hheadS i hih) (hcntS i hisz huf) (Or.inr ⟨by rw [hsetD i i hisz]; simp, arr, w.heap.size, (fun b => O b ∨ b = w.heap.size), hZ, Or.inr rfl, fun hbb => by have := hcf.b0 _ hbb; omega, fun b' hb' => (hcf.hc.base b' hb').2, ?_⟩)
        rw [foldX_congr (X := fun j => (L.setIfInBounds i true).getD j false) (Y := fun j => L.getD j false) _ _ _ _ (fun j _ hj => by
          have hjk : j < i := by simp at hj; omega
          rw [hsetD i j hisz]
          have : (j == i) = false := by simp; omega
          rw [this, Bool.or_false])]
        exact hal
      · have hik' : i < k := by omega
        obtain ⟨r, hr, hd, hy, hfold⟩ := see i o hik' ho huf hp
        rcases hcf with ⟨h0, hcf⟩ | ⟨h0, arr, b, O', q0, q1, q2, q3, hcf⟩
        · have hop : opAt ro P ops Q o (wpAnyIn (Fn ro) 0 P .any ops Q fuel (L.setIfInBounds i true)) a w := hy.1.opAt hcf hd fun a' w' hcf' =>
            ih _ a' w' (closed_set hc hi) (hheadS i hih) (hcntS i hisz huf) (.inl ⟨by rw [hkset i hik' hisz]; exact h0, by rw [hfold]; exact hcf'⟩)
          exact hop
        · obtain ⟨hcg, hswap⟩ := later i o r hik' ho huf h0 b
          have hop : opAt ro P ops Q o (wpAnyIn (Fn ro) 0 P .any ops Q fuel (L.setIfInBounds i true)) a w := (hy.1.congr hcg).opAt hcf hd fun a' w' hcf' =>
            ih _ a' w' (closed_set hc hi) (hheadS i hih) (hcntS i hisz huf) (.inr ⟨by rw [hkset i hik' hisz]; exact h0, arr, b, O', q0, q1, q2, q3, by rw [hfold, ← hswap]; exact hcf'⟩)
          exact hop
def allocB (fl : Bool) (mu : List Nat) (l : List Oper) (k : Nat) : Bool := ordB fl l.toArray (k + 1) && ((l.take k).all fun o => !isMut mu o) && match l[k]? with
  | some o => o.guard.isNone && isMut mu o && o.dst.isSome && (match o.op with
    | .alloc _ => true
    | _ => false)
  | none => false
theorem vc_drawA {E : Ev} {mu : List Nat} {Q : Post} {σ : St} (hE : EvOk E) {fl : Bool} (hro : fl = true → E.ro = none) {id : Nat} {l : List Oper} (k : Nat) (hb : allocB fl mu l k = true) (h : ∀ K : St → Prop, (∀ σ', Q.n σ' → K σ') → wpA E mu l.toArray l σ K) : VC E mu (.region id l.toArray true) Q σ := by
  intro hY g β O a w hf hc
  simp only [allocB, Bool.and_eq_true, List.all_eq_true, Bool.not_eq_true'] at hb
  obtain ⟨⟨hb1, hb2⟩, hb3⟩ := hb
  cases hk : l[k]? with
  | none => rw [hk] at hb3; cases hb3
  | some ok =>
    rw [hk] at hb3
    simp only [Bool.and_eq_true, Option.isNone_iff_eq_none] at hb3
    obtain ⟨⟨⟨hg, hmut⟩, hsome⟩, hop⟩ := hb3
    have hkl : k < l.length := (List.getElem?_eq_some_iff.1 hk).1
    have hsplit : l = l.take k ++ (ok :: l.drop (k + 1)) := by
      have : l.drop k = ok :: l.drop (k + 1) := by
        rw [List.drop_eq_getElem_cons hkl]
        congr 1
        exact (List.getElem?_eq_some_iff.1 hk).2
      rw [← this, List.take_append_drop]
    have h0 : wpA E mu l.toArray (l.take k ++ (ok :: l.drop (k + 1))) σ Q.n := by rw [← hsplit]; exact h Q.n fun _ h => h
    obtain ⟨rs, σ', h1, h2, h3, h4, h5, h6⟩ := wpA_lex hE (l.take k) (ok :: l.drop (k + 1)) σ Q.n (fun o ho => hb2 o ho) h0
    obtain ⟨hd, h6⟩ := h6
    unfold gd at h6
    rw [hg] at h6
    dsimp only at h6
    rw [hmut, cond_true] at h6
    cases ho : ok.op <;> rw [ho] at hop <;> first | (exact Bool.noConfusion hop) | skip
    rename_i e
    simp only [mop, ho] at h6
    split at h6
    case h_2 => exact h6.elim
    rename_i ti ht
    split at h6
    case h_2 => exact h6.elim
    rename_i zs hz
    cases hds : ok.dst with
    | none => rw [hds] at hsome; cases hsome
    | some s =>
      have hsn : s < σ.n.1 := by
        have := hd
        rw [hds, h5] at this
        exact this
      refine wpIn_region_any hE.mix ?_
      have hdrew : Gr w { w with drawn := w.drawn + 1 } := (Gr.refl _).drew
      have hrep : ∀ i, (Array.replicate l.toArray.size false).getD i false = false := fun i => by
        rw [Array.getD_eq_getD_getElem?]
        simp only [Array.getElem?_replicate]
        split <;> rfl
      refine head_alloc hro (g := g) (β := β) (O := O) (ok := ok) (s := s) (e := e) (Z := fun arr => ∀ (β : Bt) (O : Nat → Prop) (w : World), Rs β O w zs arr) hb1 (fun c a w hq => hq) (by simpa using h1) (by simpa using hk) (by simp [floB, ho]) hg hds hsn (fun ev w => ?_) (fun arr b O' a w hZ hO hB hO0 hcf => ?_) l.toArray.size _ a _ ⟨by simp, fun i o _ hl => by rw [hrep] at hl; cases hl⟩ (fun i _ => hrep i) (by omega) (.inl ⟨hrep k, ?_⟩)
      · obtain ⟨z, z1, z2, z3⟩ := run_zero hE.T ht w
        exact ⟨z.cells, fun β O w => rs_zero_of (by rw [z2]; exact hz), by simp [execOp, ho, Instr.alloc, newVar, Go.newRow, z1]⟩
      · have hal := al_out (s := s) hcf hO hB hO0 (by simp [updF]) (hZ _ _ _)
        have hcn : Cn g (fun k => if k = σ.nx then some (some (b, 0)) else β k) O' (newRow σ' ok.dst zs fun j => .lp j 0) a w := by
          rw [newRow_cn, hds, h3, h4, h5]
          have e1 : updF (lk σ'.fr) (some s) (.lp σ.nx 0) = updF (updF (foldX (fun _ => true) 0 (l.toArray.toList.take k) rs (lk σ.fr)) (some s) (.v (ptr0 b))) (some s) (.lp σ.nx 0) := by
            funext t
            simp only [updF]
            by_cases es : s = t
            · subst es; simp
            · rw [show (s == t) = false by simpa using es, cond_false, cond_false, cond_false]
              exact h2 0 t
          rw [e1]
          exact hal
        have := wpA_ok (Q := PC E g Q) hE hY (l.drop (k + 1)) _ Q.n g _ O' a w (hf.n (by rw [hds]; exact h5)) hcn h6 (fun a' w' hq => hq)
        simpa using this
      · rw [foldX_none _ _ _ _ (fun i _ _ => hrep i)]
        exact hc.gr hdrew
theorem v_drawA {E : Ev} {mu : List Nat} {N : St → Prop} {X : Nat → St → Prop} {R : St → Prop} {σ : St} (hE : EvOk E) {id : Nat} {l : List Oper} (hb : allocB false mu l (headStill mu l) = true) (h : ∀ K : St → Prop, (∀ σ', N σ' → K σ') → wpA E mu l.toArray l σ K) : VC E mu (.region id l.toArray true) ⟨N, X, R⟩ σ := vc_drawA hE (fl := false) (fun h => by cases h) _ hb h
theorem v_drawAF {E : Ev} {mu : List Nat} {N : St → Prop} {X : Nat → St → Prop} {R : St → Prop} {σ : St} (hE : EvOk E) {id : Nat} {l : List Oper} (hro : E.ro = none) (hb : allocB true mu l (headStill mu l) = true) (h : ∀ K : St → Prop, (∀ σ', N σ' → K σ') → wpA E mu l.toArray l σ K) : VC E mu (.region id l.toArray true) ⟨N, X, R⟩ σ := vc_drawA hE (fl := true) (fun _ => hro) _ hb h
end Go.Ab
set_option linter.unusedSimpArgs false
set_option linter.unusedVariables false
set_option linter.unusedSectionVars false
namespace Go.Ab
variable [Dr]
open Go.RowKit
section
variable {E : Ev} {o : Oper} {ge : Operand → AV} {H : Hp} {nx : Nat} {K : AV → Prop}
end
inductive OT where
  | nil
  | cons (i : Nat) (sub rest : OT)
section
variable {E : Ev} {mu : List Nat} {ops : Array Oper} {Q : Exit → Act → World → Prop}
end
end Go.Ab
set_option linter.unusedSimpArgs false
set_option linter.unusedVariables false
set_option linter.unusedSectionVars false
namespace Go.Ab
variable [Dr]
open Go.RowKit
section
variable {lt : Nat} {ops : Array Oper} {h : Nat}
end
end Go.Ab
