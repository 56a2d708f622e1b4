/-
  'fingerpostlaw32.PacketSends' returns true for every network and every packet, and all read behind the call as before; its card: the names of the ends are laid as the program's text lays them.
-/
import Derived.Test.YtmeojocmngbpaaaDoorWP
import Derived.Test.YtmeojocmngbpaaaDoorP7
import Derived.Test.YtmeojocmngbpaaaDoorTie
import Derived.Test.YtmeojocmngbpaaaDoorCards
import Derived.Lay
import Derived.SevenTiedAt
namespace Go.Proofs.YtmeojocmngbpaaaDoor.packetSends
open Go Go.ChangeShapes Go.WideShapes Go.ChangeAt Go.RowKit Go.Joins Go.Proofs.YtmeojocmngbpaaaDoor.B
set_option linter.unusedVariables false
set_option maxRecDepth 100000
theorem str_of_trod {H : Type} {enc : TypeId × Value → H} {P : Program} {w : World} {base : Nat} {sp : Nat → Bool} {held : Bool} {fuel : Nat} {t : TypeId} {c : Value} {y : DataW H × List MemPlace}
    (ht : P.underlying t = some .string) (h : DataW.trod enc P w base sp held fuel t [c] = some y) : ∃ s : ByteArray, c = .string s ∧ y = (.lit (.string s.data.toList), []) := by
  cases fuel with
  | zero => simp [DataW.trod] at h
  | succ fuel =>
    cases c <;> simp [DataW.trod, ht] at h
    rename_i s
    exact ⟨s, rfl, h.2.symm⟩
theorem str_eq {s : ByteArray} {l : List UInt8} (h : s.data.toList = l) : s = ⟨⟨l⟩⟩ := by
  obtain ⟨⟨x⟩⟩ := s
  subst h; rfl
abbrev laid : List (String × DataW Unit) := [("fingerpost/packet.names", Rows.laid_fingerpost_packet_names)]
theorem cells_of_laid {W : World} (h : laidMet Tryd.prog laid W) : W.var? Tryd.prog "fingerpost/packet.names" = some ⟨nameL.map Value.string⟩ := by
  obtain ⟨ps, ⟨g, t, cs, fuel, p, q, hg, ht, hvar, hd, _, _⟩, _⟩ := h
  obtain rfl := Option.some.inj ((show Tryd.prog.globalNamed "fingerpost/packet.names" = some 0 by kernel_rfl).symm.trans hg)
  obtain rfl := Option.some.inj ((show (Tryd.prog.globals[0]?).map (·.type) = some 58 by kernel_rfl).symm.trans ht)
  rw [hvar]
  congr 1
  obtain ⟨l⟩ := cs
  cases fuel with
  | zero => simp [DataW.trod] at hd
  | succ fuel =>
    simp only [DataW.trod, Tryd.underlying58, (show Tryd.prog.cellsOf 58 = 6 by kernel_rfl), (show Tryd.prog.cellsOf 9 = 1 by kernel_rfl)] at hd
    split at hd
    · rename_i hl
      obtain ⟨c0, c1, c2, c3, c4, c5, rfl⟩ : ∃ c0 c1 c2 c3 c4 c5, l = [c0, c1, c2, c3, c4, c5] := by
        match l, hl with
        | [a, b, c, d, e, f], _ => exact ⟨a, b, c, d, e, f, rfl⟩
      have e : List.range 6 = [0, 1, 2, 3, 4, 5] := rfl
      rw [e] at hd
      simp only [Option.map_eq_some_iff, List.mapM_cons, List.mapM_nil, Option.bind_eq_bind, Option.bind_eq_some_iff, Option.pure_def, Option.some.injEq] at hd
      obtain ⟨xs, ⟨y0, h0, _, ⟨y1, h1, _, ⟨y2, h2, _, ⟨y3, h3, _, ⟨y4, h4, _, ⟨y5, h5, _, rfl, rfl⟩, rfl⟩, rfl⟩, rfl⟩, rfl⟩, rfl⟩, hx⟩ := hd
      obtain ⟨s0, rfl, rfl⟩ := str_of_trod Tryd.underlying9 h0
      obtain ⟨s1, rfl, rfl⟩ := str_of_trod Tryd.underlying9 h1
      obtain ⟨s2, rfl, rfl⟩ := str_of_trod Tryd.underlying9 h2
      obtain ⟨s3, rfl, rfl⟩ := str_of_trod Tryd.underlying9 h3
      obtain ⟨s4, rfl, rfl⟩ := str_of_trod Tryd.underlying9 h4
      obtain ⟨s5, rfl, rfl⟩ := str_of_trod Tryd.underlying9 h5
      simp [Rows.laid_fingerpost_packet_names] at hx
      obtain ⟨⟨k0, k1, k2, k3, k4, k5⟩, _⟩ := hx
      have t0 := str_eq (by simpa using k0)
      have t1 := str_eq (by simpa using k1)
      have t2 := str_eq (by simpa using k2)
      have t3 := str_eq (by simpa using k3)
      have t4 := str_eq (by simpa using k4)
      have t5 := str_eq (by simpa using k5)
      subst t0 t1 t2 t3 t4 t5
      rfl
    · cases hd
theorem named_of_laid {W : World} (h : laidMet Tryd.prog laid W) : 1 ≤ W.heap.size ∧ Named (absH W) := by
  have hg : Tryd.prog.globalNamed "fingerpost/packet.names" = some 0 := by kernel_rfl
  have hvar := cells_of_laid h
  have c : ∀ i : Nat, W.cell? ⟨0, i, none⟩ = (nameL.map Value.string)[i]? := fun i => by
    have := World.var?_cell hg hvar i
    rw [this]; simp
  have hs : 0 < W.heap.size := by
    have c0 := c 0
    apply Classical.byContradiction
    intro hn
    rw [World.cell?, Array.getElem?_eq_none (by omega)] at c0
    simp [nameL] at c0
  refine ⟨hs, ?_⟩
  have := root_rds (W := W) (b := 0) (off := 0) (n := 6) (vs := nameL.map Value.string) rfl hs (fun i _ => by rw [Nat.zero_add]; exact c i) (by simp [nameL])
  rw [Named, this]; rfl

theorem lifted (os : Os) (started : os.Started) (H : Type) (enc : TypeId × Value → H) :
    ReturnsInHanded {} Tryd.checked os 3 .any (fun w args => (Rows.packetSendsSpec.pre enc Tryd.prog Tryd.f3 [] false w args ∧ laidMet Tryd.prog laid w) ∧ sizedMet enc Tryd.prog Tryd.f3 (OpenSpec.ofChange Rows.packetSendsSpec) false w args)
      (Rows.packetSendsSpec.post enc Tryd.prog Tryd.f3 false true false false) := by
  refine returnsInHanded_of_change_and (C := Tryd.checked) (X := fun w _ => laidMet Tryd.prog laid w) (fun _ _ _ hh h => h.of_heap hh) own started (by kernel_rfl) Tryd.func3
    (ChangeSpec.witness_shaped (enc := enc) (C := Tryd.checked) (os := os) (X := fun w _ => laidMet Tryd.prog laid w) false (World.laidAll Tryd.prog os laid) #[.agg #[.slice none 0 0, .slice none 0 0, .slice none 0 0, .slice none 0 0], .int .i64 0, .int .i64 0, .int .i64 0] 8 (World.laidAll_os _ _ _)
      (World.shaped_of_ZipB (by kernel_rfl) (by kernel_rfl)) (by kernel_rfl) (by kernel_rfl) (by kernel_rfl)
      (laidMet_laidAll _ (by kernel_rfl) (by kernel_rfl))) ?_
  intro W base args ds gs before hval0 hW hcnd hsz0 hL _
  obtain ⟨hG, hN⟩ := named_of_laid hL
  have hval : ∀ (j : Nat) t v, Tryd.f3.params[j]? = some t → args[j]? = some v → Value.okWide Tryd.prog W .any base t v := hval0
  refine law_end (P := Tryd.prog) (tb := 4) laidOut (by kernel_rfl) rfl Tryd.underlying4 rfl hG (fun ds hds => ?_) hW hsz0 (fun hsh hlen => ?_)
  · match ds, hds with
    | [d0, d1, d2, d3], _ => rfl
  · have hsh' : ∀ (j : Nat) t v, Tryd.f3.params[j]? = some t → args[j]? = some v → ∀ d sh, shOf Tryd.prog d t = some sh → sh.ok (absH W) (v.cells.toList.map (abs1 W.heap.size)) := hsh
    clear hsh hval0 hsz0 hW hcnd hL
    obtain ⟨v0, v1, v2, v3, rfl⟩ := arr4 (show args.size = 4 from hlen)
    have ok0 := hval 0 26 v0 rfl rfl
    have sh0 := hsh' 0 26 v0 rfl rfl 8 netSh (by kernel_rfl)
    have ok1 := hval 1 3 v1 rfl rfl
    have sh1 := hsh' 1 3 v1 rfl rfl 8 (.int .i64) (by kernel_rfl)
    have ok2 := hval 2 3 v2 rfl rfl
    have sh2 := hsh' 2 3 v2 rfl rfl 8 (.int .i64) (by kernel_rfl)
    have ok3 := hval 3 3 v3 rfl rfl
    have sh3 := hsh' 3 3 v3 rfl rfl 8 (.int .i64) (by kernel_rfl)
    clear hval hsh'
    obtain ⟨tv, hv, uv, kv, N, e0, k0, hF0⟩ := opNet (okAgg 4 Tryd.underlying26 (by kernel_rfl) ok0) sh0
    obtain ⟨n1, e1, w1⟩ := opI Tryd.underlying3 ok1 sh1
    obtain ⟨n2, e2, w2⟩ := opI Tryd.underlying3 ok2 sh2
    obtain ⟨n3, e3, w3⟩ := opI Tryd.underlying3 ok3 sh3
    simp only [List.map_cons, List.map_nil, e0, e1, e2, e3]
    refine packetSends_spec k0 hF0 hN _ _ _ ?_
    simp only [Lit.wf, Bool.and_eq_true, decide_eq_true_eq] at w3
    have : IntKind.i64.min = -9223372036854775808 := rfl
    omega
theorem over : Rows.packetSendsRow.holds Tryd.pinned (OpenSpec.ofChange Rows.packetSendsSpec) :=
  OpenClaim.holds_of_wide 3 Tryd.f3 rfl rfl rfl rfl rfl rfl rfl ⟨rfl, rfl, rfl, rfl, rfl⟩ rfl rfl rfl rfl rfl (by kernel_rfl) Tryd.func3 (by kernel_rfl)
    (of_decide_eq_true (by kernel_rfl)) (by unfold Func.isWrapper; first | (rw [if_pos (by decide +kernel)]; kernel_rfl) | (rw [if_neg (by decide +kernel)]; exact ⟨rfl, rfl⟩))
    (fun os started H enc _ => lifted os started H enc)
end Go.Proofs.YtmeojocmngbpaaaDoor.packetSends
namespace Go.Proofs.YtmeojocmngbpaaaDoor
open Go
set_option maxRecDepth 100000
/-- 'fingerpostlaw32.PacketSends' holds as it is stated: the row, tied to the program's text. -/
theorem packetSends_card : Rows.PacketSendsCardSaid :=
  Claim7.holds_tied_plain_at .later [] [.data] true (true, "d4259191199b9035d05d4efc754804410cf8c863495305dd58ef4556dd3269b4") false packetSends.over (fun _ h => by cases h) (by kernel_rfl) (fun _ h => by cases h) packetSends_row_tie rfl ⟨rfl, rfl⟩ (by kernel_rfl) rfl
    (fun f fn hf hfn => by
      obtain rfl : f = 3 := Option.some.inj ((show Tryd.prog.funcNamed "fingerpost/fingerpostlaw32.PacketSends" = some 3 by kernel_rfl).symm.trans hf) |>.symm
      obtain rfl : fn = Tryd.f3 := (Option.some.inj (Tryd.func3.symm.trans hfn)).symm
      exact ⟨by kernel_rfl, fun j t ht => by
        have hm : t ∈ [26, 3] := by
          have := Array.mem_of_getElem? ht
          rw [show Tryd.f3.params = #[26, 3, 3, 3] from rfl] at this
          simpa using this
        have hall : ([26, 3].all fun u => !Tryd.prog.wantsStandIn u) = true := by kernel_rfl
        exact (show Tryd.prog.wantsStandIn t = false by simpa using List.all_eq_true.1 hall t hm)⟩)
    (by kernel_rfl)
end Go.Proofs.YtmeojocmngbpaaaDoor
