/-
  From a walk to a law's statement: a law whose walk returns true, and leaves all that was there as it was, holds; each argument reads behind the call as it read before. And: what the arguments' readings say of memory.
-/
import Derived.Test.YtpnliafjiookpaaRows
import Derived.Test.YtpnliafjiookpaaBase
import Derived.ProofKit
import Derived.OpenShut
import Derived.ShutString
import Derived.ChangeOld
import Derived.SizedLaws
import Derived.Deep.Slices
namespace Go.Proofs.Ytpnliafjiookpaa
open Go.ChangeShapes Go.WideShapes Go.ChangeAt Go.RowKit
open Go.ChangeMaps (open_string shut_string)

theorem Try.own : ownKnob Try.prog.godebug = none := by kernel_rfl
theorem Try.laidOut : laidOutB Try.prog = true := by kernel_rfl

theorem below_trodAll {H : Type} {enc : TypeId × Value → H} {P : Program} (hl : laidOutB P = true) {W W' : World} (hb : Below W.heap.size W W') :
    ∀ (ts : List TypeId) (vs : List Value) (ds : List (DataW H)) (ps : List MemPlace), (∀ t ∈ ts, P.readableRec t = true ∧ t < P.types.size) →
      DataW.TrodAll enc P W 0 (fun _ => true) true ts vs ds ps → DataW.TrodAll enc P W' 0 (fun b => decide (b < W.heap.size)) true ts vs ds ps := by
  intro ts
  induction ts with
  | nil =>
    intro vs ds ps _ h
    obtain ⟨rfl, rfl, rfl⟩ := trodAll_nil h
    exact trodAll_mk0
  | cons t ts ih =>
    intro vs ds ps hr h
    obtain ⟨v, vs, d, ds, p, q, rfl, rfl, rfl, h0, h1⟩ := trodAll_cons h
    have ht := hr t (List.mem_cons_self ..)
    refine trodAll_cons_mk (Below.trod hl ht.1 ht.2 h0 hb ?_) (ih vs ds q (fun t h => hr t (List.mem_cons_of_mem _ h)) h1)
    obtain ⟨m, hm⟩ := h0
    exact DataW.trod_lt m _ _ _ hm

/-- All lengths of a reading are within the reach. -/
def Fits {H : Type} (t : TypeId) (d : DataW H) : Prop := ∀ x ∈ d.weights Try.prog t, x ≤ reachBytes

/-- What a walk is told of an argument: it can be read. -/
def One (W : World) (t : TypeId) (v : Value) : Prop :=
  ∃ (H : Type) (enc : TypeId × Value → H) (d : DataW H) (p : List MemPlace) (base : Nat), DataW.Trod enc Try.prog W 0 (fun _ => true) true t v d p ∧ Fits t d ∧ Value.okWide Try.prog W .any base t v

/-- .. of all arguments. -/
def ArgsOk (W : World) : List TypeId → List Value → Prop
  | [], [] => True
  | t :: ts, v :: vs => One W t v ∧ ArgsOk W ts vs
  | _, _ => False

/-- The walk of a law: true, whatever the arguments; all that was there stays. -/
def LawWalk (f : FuncId) (ts : List TypeId) : Prop :=
  ∀ (W : World) (args : Array Value), ArgsOk W ts args.toList → Calls Try.prog f args W fun e W' => e = .returned (.bool true) ∧ Below W.heap.size W W'

theorem argsOk_of {H : Type} {enc : TypeId × Value → H} {W : World} : ∀ (ts : List TypeId) (args : List Value) (ds : List (DataW H)) (ps : List MemPlace),
    DataW.TrodAll enc Try.prog W 0 (fun _ => true) true ts args ds ps → (∀ x ∈ DataW.weightsEach Try.prog ts ds, x ≤ reachBytes) →
    (∃ base, ∀ (j : Nat) t v, ts[j]? = some t → args[j]? = some v → Value.okWide Try.prog W .any base t v) → ArgsOk W ts args := by
  intro ts
  induction ts with
  | nil =>
    intro vs ds ps h _ _
    obtain ⟨rfl, _, _⟩ := trodAll_nil h
    trivial
  | cons t ts ih =>
    intro vs ds ps h hw ⟨base, hb⟩
    obtain ⟨v, vs, d, ds, p, q, rfl, rfl, rfl, h0, h1⟩ := trodAll_cons h
    simp only [DataW.weightsEach, List.mem_append] at hw
    exact ⟨⟨H, enc, d, p, base, h0, fun x hx => hw x (.inl hx), hb 0 t v rfl rfl⟩, ih vs ds q h1 (fun x hx => hw x (.inr hx)) ⟨base, fun j t v ht hv => hb (j + 1) t v (by simpa using ht) (by simpa using hv)⟩⟩

theorem argsOk1 {W : World} {t0 : TypeId} {args : Array Value} (h : ArgsOk W [t0] args.toList) : ∃ v0, args = #[v0] ∧ One W t0 v0 := by
  match args, h with
  | ⟨[v0]⟩, h => exact ⟨v0, rfl, h.1⟩

theorem argsOk2 {W : World} {t0 t1 : TypeId} {args : Array Value} (h : ArgsOk W [t0, t1] args.toList) : ∃ v0 v1, args = #[v0, v1] ∧ One W t0 v0 ∧ One W t1 v1 := by
  match args, h with
  | ⟨[v0, v1]⟩, h => exact ⟨v0, v1, rfl, h.1, h.2.1⟩

theorem argsOk3 {W : World} {t0 t1 t2 : TypeId} {args : Array Value} (h : ArgsOk W [t0, t1, t2] args.toList) : ∃ v0 v1 v2, args = #[v0, v1, v2] ∧ One W t0 v0 ∧ One W t1 v1 ∧ One W t2 v2 := by
  match args, h with
  | ⟨[v0, v1, v2]⟩, h => exact ⟨v0, v1, v2, rfl, h.1, h.2.1, h.2.2.1⟩

theorem argsOk4 {W : World} {t0 t1 t2 t3 : TypeId} {args : Array Value} (h : ArgsOk W [t0, t1, t2, t3] args.toList) : ∃ v0 v1 v2 v3, args = #[v0, v1, v2, v3] ∧ One W t0 v0 ∧ One W t1 v1 ∧ One W t2 v2 ∧ One W t3 v3 := by
  match args, h with
  | ⟨[v0, v1, v2, v3]⟩, h => exact ⟨v0, v1, v2, v3, rfl, h.1, h.2.1, h.2.2.1, h.2.2.2.1⟩

theorem argsOk5 {W : World} {t0 t1 t2 t3 t4 : TypeId} {args : Array Value} (h : ArgsOk W [t0, t1, t2, t3, t4] args.toList) : ∃ v0 v1 v2 v3 v4, args = #[v0, v1, v2, v3, v4] ∧ One W t0 v0 ∧ One W t1 v1 ∧ One W t2 v2 ∧ One W t3 v3 ∧ One W t4 v4 := by
  match args, h with
  | ⟨[v0, v1, v2, v3, v4]⟩, h => exact ⟨v0, v1, v2, v3, v4, rfl, h.1, h.2.1, h.2.2.1, h.2.2.2.1, h.2.2.2.2.1⟩

set_option maxRecDepth 100000 in
theorem law_lifted {spec : ChangeSpec} {f : FuncId} {fn : Func} (hf : Try.prog.funcs[f]? = some fn) (hvars : spec.vars = [])
    (hres : fn.resultTypes = #[4]) (hread : ∀ t ∈ fn.params.toList, Try.prog.readableRec t = true ∧ t < Try.prog.types.size)
    (hspec : ∀ (H : Type) (ds : List (DataW H)), ds.length = fn.params.size → spec.fn H ds = { results := [.lit (.bool true)], args := ds })
    (noInit : Try.prog.inits.idxOf? f = none) (os : Os) (started : os.Started) (H : Type) (enc : TypeId × Value → H)
    (wit : ∃ (w : World) (tape : Tape) (i : Input), w.os = os ∧ (w.forCall tape i).Shaped Try.checked.prog ∧ i.vars = [] ∧ Input.okWide Try.checked.prog (w.forCall tape i) .any w.heap.size f i ∧
      spec.pre6 enc Try.checked.prog fn [] false (w.forCall tape i).memory i.args ∧ ({} : Assume).holds Try.checked.prog (lone (Frame.enter Try.checked.prog f i.args .normal) [] (w.forCall tape i)))
    (walk : LawWalk f fn.params.toList) :
    ReturnsInHanded {} Try.checked os f .any (spec.pre6 enc Try.prog fn [] false) (spec.post enc Try.prog fn false true false false) := by
  refine returnsInHanded_of_change_sized (C := Try.checked) Try.own started noInit hf wit ?_
  intro W base args ds gs before hval0 hW hcnd hsz0 _
  have hW' := hW
  obtain ⟨p, q, hA0, hV, rfl, hfz, hnd⟩ := hW
  have hA : DataW.TrodAll enc Try.prog W 0 (fun _ => true) true fn.params.toList args.toList ds p := hA0
  have hgs : gs = [] ∧ q = [] := by rw [hvars] at hV; exact trodVars_none hV
  obtain ⟨rfl, rfl⟩ := hgs
  have hvt : spec.plain.varTypes Try.prog = [] := by
    have : spec.plain.vars = [] := hvars
    unfold DataSpec.varTypes
    rw [this]
    rfl
  have hsz : (DataW.weightsEach Try.prog (fn.params.toList ++ spec.plain.varTypes Try.prog) (ds ++ [])).all (· ≤ reachBytes) = true := hsz0
  rw [hvt, List.append_nil, List.append_nil] at hsz
  refine (walk W args (argsOk_of _ _ _ _ hA (by simpa [List.all_eq_true] using hsz) ⟨base, fun j t v ht hv => hval0 j t v (by simpa using ht) (by simpa using hv)⟩)).mono fun e W' ⟨he, bel⟩ => ?_
  have hlen : ds.length = fn.params.size := by
    have : ∀ (ts : List TypeId) (vs : List Value) (ds : List (DataW H)) (ps : List MemPlace), DataW.TrodAll enc Try.prog W 0 (fun _ => true) true ts vs ds ps → ds.length = ts.length := by
      intro ts
      induction ts with
      | nil => intro vs ds ps h; obtain ⟨_, rfl, _⟩ := trodAll_nil h; rfl
      | cons t ts ih => intro vs ds ps h; obtain ⟨v, vs, d, ds, p, q, rfl, rfl, rfl, _, h1⟩ := trodAll_cons h; simp [ih _ _ _ h1]
    simpa using this _ _ _ _ hA
  refine ⟨.bool true, he, ds, [], p ++ [], [], p, [], by simpa using hW', ?_, ?_, ?_, bel.frame _, fun h => by cases h⟩
  · rw [List.append_nil, hspec H ds hlen, hres]
    exact trodAll_mk1 (shut_bool Try.underlying4 _)
  · rw [List.append_nil, hspec H ds hlen]
    exact below_trodAll Try.laidOut bel _ _ _ _ hread hA
  · rw [List.append_nil, hspec H ds hlen, hvars]
    rfl

/-- The readings of the arguments: of each cell list, what it is. -/
noncomputable abbrev Tr (H : Type) (enc : TypeId × Value → H) (W : World) (fuel : Nat) (t : TypeId) (cs : List Value) : Option (DataW H × List MemPlace) :=
  DataW.trod enc Try.prog W 0 (fun _ => true) true fuel t cs

theorem fits_all {H : Type} {e : TypeId} {ds : List (DataW H)} (h : ∀ x ∈ DataW.weightsAll Try.prog e ds, x ≤ reachBytes) : ∀ d ∈ ds, Fits e d := by
  induction ds with
  | nil => intro d hd; cases hd
  | cons d0 ds ih =>
    intro d hd
    simp only [DataW.weightsAll, List.mem_append] at h
    rcases List.mem_cons.1 hd with rfl | hd
    · exact fun x hx => h x (.inl hx)
    · exact ih (fun x hx => h x (.inr hx)) d hd

theorem fits_each {H : Type} {ts : List TypeId} {ds : List (DataW H)} (h : ∀ x ∈ DataW.weightsEach Try.prog ts ds, x ≤ reachBytes) : ∀ (j : Nat) t d, ts[j]? = some t → ds[j]? = some d → Fits t d := by
  intro j t d ht hd x hx
  exact h x (DataW.weights_mem_each ht hd x hx)

/-- A slice opened: its elements, each by what its cells are. -/
theorem open_sl {H : Type} {enc : TypeId × Value → H} {W : World} {α : Type} [Inhabited α] {E : El α} {G : α → Prop} {t : TypeId} (hu : Try.prog.underlying t = some (.slice E.e)) (hcells : Try.prog.cellsOf E.e = E.size)
    (hdec : ∀ fuel cs y, Tr H enc W fuel E.e cs = some y → cs.length = E.size → Fits E.e y.1 → ∃ x, E.enc x = cs ∧ G x) (hpos : 0 < E.size)
    {fuel : Nat} {cs : List Value} {y : DataW H × List MemPlace} (h : Tr H enc W fuel t cs = some y) (hf : Fits t y.1) :
    ∃ ao n c l, cs = [.slice ao n c] ∧ RdS E W ao n c l ∧ (∀ x ∈ l, G x) ∧ c ≤ maxLen ∧ c * Try.prog.bytesOf E.e ≤ reachBytes := by
  rcases Deep.open_slice hu h with ⟨rfl, rfl⟩ | ⟨a, len, cap, m, n, D, Pl, rfl, _, hl, hm, hmm, rfl, hx⟩
  · exact ⟨none, 0, 0, [], rfl, ⟨Rd.nil _ _, rfl, Nat.le_refl _, fun _ => ⟨rfl, rfl⟩⟩, fun x hx => (by cases hx), Nat.zero_le _, by simp⟩
  · simp only [if_true] at hmm
    subst hmm
    have hw : ∀ x ∈ (m * Try.prog.bytesOf E.e :: (DataW.weightsAll Try.prog E.e ((List.range len).map D) ++ DataW.weightsAll Try.prog E.e ((List.range (m - len)).map fun j => D (len + j)))), x ≤ reachBytes := by
      intro x hx
      refine hf x ?_
      simp only [DataW.weights, hu, List.length_map, List.length_range]
      rw [show len + (m - len) = m by omega]
      exact hx
    obtain ⟨f, hfx⟩ := Deep.choose_lt (n := len) (p := fun i x => (∀ j, j < E.size → W.cell? (a.add (i * E.size + j)) = (E.enc x)[j]?) ∧ (E.enc x).length = E.size ∧ G x) (fun i hi => by
      obtain ⟨cs', h1, h2⟩ := hx i (by omega)
      rw [hcells] at h1
      obtain ⟨_, hlen, hcell⟩ := World.cells?_some h1
      obtain ⟨x, rfl, hG⟩ := hdec n cs' _ h2 hlen (fits_all (fun x hx => hw x (by simp only [List.mem_cons, List.mem_append]; exact .inr (.inl hx))) _ (List.mem_map.2 ⟨i, List.mem_range.2 hi, rfl⟩))
      refine ⟨x, fun j hj => ?_, hlen, hG⟩
      have := hcell j hj
      rw [Deep.add_add] at this
      rw [this, List.getElem?_eq_getElem (by omega)])
    refine ⟨some a, len, m, (List.range len).map f, rfl, ⟨?_, by simp, hl, fun e => by cases e⟩, ?_, hm, hw _ (List.mem_cons_self ..)⟩
    · intro i u hu'
      have hflat : ∀ (l : List Nat), (∀ k ∈ l, k < len) → ((l.map f).flatMap E.enc).length = l.length * E.size := by
        intro l
        induction l with
        | nil => intro _; simp
        | cons k l ih =>
          intro hk
          simp [ih (fun k h => hk k (List.mem_cons_of_mem _ h)), (hfx k (hk k (List.mem_cons_self ..))).2.1, Nat.succ_mul]
          omega
      have hil : i < len * E.size := by
        have := (List.getElem?_eq_some_iff.1 hu').1
        rw [hflat _ (fun k hk => List.mem_range.1 hk)] at this
        simpa using this
      obtain ⟨q, r, hq, hr, rfl⟩ : ∃ q r, q < len ∧ r < E.size ∧ i = q * E.size + r :=
        ⟨i / E.size, i % E.size, Nat.div_lt_of_lt_mul (by rw [Nat.mul_comm]; exact hil), Nat.mod_lt _ hpos, (Nat.div_add_mod' i E.size).symm⟩
      have hget : ((List.range len).map f).flatMap E.enc = (((List.range len).map f).take q).flatMap E.enc ++ (E.enc (f q) ++ (((List.range len).map f).drop (q + 1)).flatMap E.enc) := by
        conv => lhs; rw [← List.take_append_drop q ((List.range len).map f)]
        rw [List.flatMap_append, List.drop_eq_getElem_cons (by simpa using hq), List.flatMap_cons]
        simp
      have hfront : ((((List.range len).map f).take q).flatMap E.enc).length = q * E.size := by
        rw [← List.map_take, hflat _ (fun k hk => List.mem_range.1 (List.mem_of_mem_take hk))]
        rw [List.length_take, List.length_range, Nat.min_eq_left (Nat.le_of_lt hq)]
      rw [hget, List.getElem?_append_right (by rw [hfront]; omega), hfront, List.getElem?_append_left (by rw [(hfx _ hq).2.1]; omega), show q * E.size + r - q * E.size = r by omega, ← (hfx _ hq).1 _ hr] at hu'
      have hs : a.spot = none := by
        have h0 := (hfx 0 (by omega)).1 0 hpos
        rw [List.getElem?_eq_getElem (by rw [(hfx 0 (by omega)).2.1]; exact hpos)] at h0
        have : (a.add (0 * E.size + 0)) = a := by simp [Addr.add]
        rw [this] at h0
        unfold World.cell? at h0
        split at h0
        · by_cases hsp : a.spot.isSome = true
          · rw [if_pos hsp] at h0; cases h0
          · simpa using hsp
        · cases h0
      refine ⟨a.block, a.off, ?_, ?_⟩
      · cases a; simp at hs; subst hs; rfl
      · rw [← hu']
        congr 1
        cases a; simp at hs; subst hs
        exact (addr_add _ _ _).symm
    · intro x hx
      obtain ⟨k, hk, rfl⟩ := List.mem_map.1 hx
      exact (hfx k (List.mem_range.1 hk)).2.2

/-- The arguments, each by its type. -/
theorem one_u64 {W : World} {t : TypeId} {v : Value} (hu : Try.prog.underlying t = some (.int .u64)) (h : One W t v) : ∃ n : Nat, v = .int .u64 n ∧ n < 18446744073709551616 := by
  obtain ⟨H, enc, d, p, base, hd, _, hv⟩ := h
  obtain ⟨z, rfl, _, _, hw⟩ := open_int hu hv hd
  obtain ⟨h0, h1⟩ := bounds_u64 hw
  exact ⟨z.toNat, by rw [Int.toNat_of_nonneg h0], by omega⟩

theorem one_u16 {W : World} {t : TypeId} {v : Value} (hu : Try.prog.underlying t = some (.int .u16)) (h : One W t v) : ∃ n : Nat, v = .int .u16 n ∧ n < 65536 := by
  obtain ⟨H, enc, d, p, base, hd, _, hv⟩ := h
  obtain ⟨z, rfl, _, _, hw⟩ := open_int hu hv hd
  obtain ⟨h0, h1⟩ := bounds_u16 hw
  exact ⟨z.toNat, by rw [Int.toNat_of_nonneg h0], by omega⟩

theorem one_u8 {W : World} {t : TypeId} {v : Value} (hu : Try.prog.underlying t = some (.int .u8)) (h : One W t v) : ∃ n : Nat, v = .int .u8 n ∧ n < 256 := by
  obtain ⟨H, enc, d, p, base, hd, _, hv⟩ := h
  obtain ⟨z, rfl, _, _, hw⟩ := open_int hu hv hd
  obtain ⟨h0, h1⟩ := bounds_u8 hw
  exact ⟨z.toNat, by rw [Int.toNat_of_nonneg h0], by omega⟩

theorem one_i64 {W : World} {t : TypeId} {v : Value} (hu : Try.prog.underlying t = some (.int .i64)) (h : One W t v) : ∃ n : Int, v = .int .i64 n ∧ -9223372036854775808 ≤ n ∧ n < 9223372036854775808 := by
  obtain ⟨H, enc, d, p, base, hd, _, hv⟩ := h
  obtain ⟨z, rfl, _, _, hw⟩ := open_int hu hv hd
  obtain ⟨h0, h1⟩ := bounds_i64 hw
  exact ⟨z, rfl, h0, by omega⟩

theorem one_bool {W : World} {t : TypeId} {v : Value} (hu : Try.prog.underlying t = some .bool) (h : One W t v) : ∃ b : Bool, v = .bool b := by
  obtain ⟨H, enc, d, p, base, hd, _, hv⟩ := h
  obtain ⟨b, rfl, _, _⟩ := open_bool hu hv hd
  exact ⟨b, rfl⟩

theorem one_str {W : World} {t : TypeId} {v : Value} (hu : Try.prog.underlying t = some .string) (h : One W t v) : ∃ s : ByteArray, v = .string s ∧ s.size ≤ 140737488351232 := by
  obtain ⟨H, enc, d, p, base, hd, hf, hv⟩ := h
  obtain ⟨s, rfl, rfl, _, _⟩ := open_string hu hv hd
  refine ⟨s, rfl, ?_⟩
  have := hf s.data.toList.length (by simp [DataW.weights])
  simpa [reachBytes] using this

theorem one_sl {W : World} {α : Type} [Inhabited α] {E : El α} {G : α → Prop} {t : TypeId} {v : Value} (hu : Try.prog.underlying t = some (.slice E.e)) (hcells : Try.prog.cellsOf E.e = E.size)
    (hdec : ∀ (H : Type) (enc : TypeId × Value → H) fuel cs y, Tr H enc W fuel E.e cs = some y → cs.length = E.size → Fits E.e y.1 → ∃ x, E.enc x = cs ∧ G x) (hpos : 0 < E.size) (h : One W t v) :
    ∃ ao n c l, v = .slice ao n c ∧ RdS E W ao n c l ∧ (∀ x ∈ l, G x) ∧ c ≤ maxLen ∧ c * Try.prog.bytesOf E.e ≤ reachBytes := by
  obtain ⟨H, enc, d, p, base, ⟨fuel, hd⟩, hf, hv⟩ := h
  obtain ⟨a, n, c, rfl⟩ := okWide_slice hu hv
  obtain ⟨ao, n', c', l, e, h1, h2, h3, h4⟩ := open_sl hu hcells (hdec H enc) hpos hd hf
  simp [Value.cells] at e
  obtain ⟨rfl, rfl, rfl⟩ := e
  exact ⟨_, _, _, l, rfl, h1, h2, h3, h4⟩

/-- A number's cell, whatever its kind. -/
theorem tr_int {H : Type} {enc : TypeId × Value → H} {W : World} {t : TypeId} {k : IntKind} (hu : Try.prog.underlying t = some (.int k)) {fuel : Nat} {cs : List Value} {y : DataW H × List MemPlace} (h : Tr H enc W fuel t cs = some y) :
    ∃ z : Int, cs = [.int k z] ∧ (Lit.int k z).wf = true := by
  obtain ⟨z, e, _, hw⟩ := DataW.trod_int hu h
  exact ⟨z, e, hw⟩

end Go.Proofs.Ytpnliafjiookpaa
