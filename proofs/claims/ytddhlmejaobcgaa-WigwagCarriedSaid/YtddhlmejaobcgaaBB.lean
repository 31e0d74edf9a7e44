import Derived.Test.YtddhlmejaobcgaaBA
set_option maxRecDepth 100000
set_option linter.unusedVariables false
set_option linter.unusedSimpArgs false
/- Package bag: what is sent, taken, copied. -/
namespace Go.Proofs.Ytddhlmejaobcgaa.Bg
open Go Go.Am
def od34 : Ords := [(5, [0, 1, 2, 3, 4, 5, 1006, 7])]
theorem code34 : codeB Try.f34.ntmps od34 (match Try.f34.body with | some c => c | none => .skip) = true := by kernel_rfl
def od8 : Ords := [(6, [0, 1, 2, 3, 4, 5, 6, 7, 8, 9, 10, 11, 12, 13, 1014, 15, 16, 1017])]
theorem code8 : codeB Try.f8.ntmps od8 (match Try.f8.body with | some c => c | none => .skip) = true := by kernel_rfl
def od9 : Ords := []
theorem code9 : codeB Try.f9.ntmps od9 (match Try.f9.body with | some c => c | none => .skip) = true := by kernel_rfl
def od12 : Ords := [(4, [0, 1, 2, 3, 4, 5, 6, 7, 8, 9, 10, 11, 12, 13, 14, 15, 16, 17, 18, 19, 20, 21, 22, 23, 24, 1025, 26, 27, 28, 29])]
theorem code12 : codeB Try.f12.ntmps od12 (match Try.f12.body with | some c => c | none => .skip) = true := by kernel_rfl
abbrev pk0 : Pk := ⟨0, 0, 0, ⟨#[]⟩⟩
/-- The place of a packet. -/
theorem ixD_spec (t : Pk → Bool) : ∀ (l : List Pk) (i : Nat), (ixD t l i = -1 ∧ ∀ p ∈ l, t p = false) ∨ ∃ (k : Nat) (p : Pk), ixD t l i = ((i + k : Nat) : Int) ∧ l[k]? = some p ∧ t p = true ∧ ∀ m q, m < k → l[m]? = some q → t q = false
  | [], i => .inl ⟨rfl, fun p hp => by cases hp⟩
  | p :: r, i => by
    rw [ixD]
    by_cases hp : t p = true
    · rw [if_pos hp]
      exact .inr ⟨0, p, rfl, rfl, hp, fun m q hm => absurd hm (by omega)⟩
    · rw [if_neg hp]
      have hp' : t p = false := by simpa using hp
      rcases ixD_spec t r (i + 1) with ⟨h1, h2⟩ | ⟨k, q, h1, h2, h3, h4⟩
      · refine .inl ⟨h1, fun x hx => ?_⟩
        rcases List.mem_cons.1 hx with rfl | hx
        · exact hp'
        · exact h2 x hx
      · refine .inr ⟨k + 1, q, by rw [h1]; congr 1; omega, h2, h3, fun m x hm hx => ?_⟩
        cases m with
        | zero => obtain rfl := Option.some.inj hx; exact hp'
        | succ m => exact h4 m x (by omega) hx
theorem flat_del {l : List Pk} {i : Nat} (j : List D) : ((flat pkC l ++ j).drop 0).take (i * 4) = flat pkC (l.take i) ++ j.take (i * 4 - l.length * 4) := by
  rw [List.drop_zero, List.take_append, flat_take pkC_len, pk_flat]
set_option maxHeartbeats 4000000 in
theorem ok34 (e : Nat) (l : List Pk) (i : Nat) (hi : i < l.length) (hl : l.length ≤ 1000000) (j : List D) :
    CallOk Try.prog 34 [.row 0 e 0 l.length, .d (nI i), .d (nI ((i + 1 : Nat) : Int))] [rowS e l j] (fun v s => v = .row 0 e 0 (l.eraseIdx i).length ∧ s = [rowS e (l.eraseIdx i) (pkC pk0 ++ j)]) := by
  refine CallOk.of tysOk mixed od34 Try.func34 rfl rfl code34 ?_
  have hlen : (l.eraseIdx i).length + 1 = l.length := by rw [List.length_eraseIdx, if_pos hi]; omega
  have hfl := pk_flat l
  refine W.need ⟨by omega, by omega, by omega, by omega⟩ ?_
  have c1 : ((i : Int) == ((i + 1 : Nat) : Int)) = false := by rw [beq_int]; exact decide_eq_false (by omega)
  refine W.ite_f c1 ?_
  have hcl : (flat pkC l ++ j).length = l.length * 4 + j.length := by rw [List.length_append, hfl]
  have hnew : ((flat pkC l ++ j).drop (0 + (i + 1) * 4)).take ((l.length - (i + 1)) * 4) = flat pkC (l.drop (i + 1)) := by
    rw [Nat.zero_add, List.drop_append_of_le_length (by rw [hfl]; omega), flat_drop pkC_len, List.take_left' (by rw [pk_flat, List.length_drop])]
  have hnl : (flat pkC (l.drop (i + 1))).length = (l.length - (i + 1)) * 4 := by rw [pk_flat, List.length_drop]
  have hhead : (flat pkC l ++ j).take (i * 4) = flat pkC (l.take i) := by
    rw [List.take_append_of_le_length (by rw [hfl]; omega), flat_take pkC_len]
  have hmid : flat pkC (l.take i) ++ flat pkC (l.drop (i + 1)) = flat pkC (l.eraseIdx i) := by
    rw [← flat_append, List.eraseIdx_eq_take_drop_succ]
  refine W.cond_t (be e) ?_
  refine W.need (by rw [hcl]; omega) ?_
  refine W.need ⟨by omega, by rw [hcl]; omega⟩ ?_
  refine W.cond_t (be e) ?_
  refine W.need (by rw [hcl]; omega) ?_
  refine W.need ⟨by omega, by omega⟩ ?_
  refine W.need rfl ?_
  obtain ⟨X, hX⟩ : ∃ X, (flat pkC l ++ j).drop ((l.length - 1) * 4) = X ++ j ∧ X.length = 4 := by
    refine ⟨flat pkC (l.drop (l.length - 1)), ?_, ?_⟩
    · rw [List.drop_append_of_le_length (by rw [hfl]; omega), flat_drop pkC_len]
    · rw [pk_flat, List.length_drop]; omega
  have hM : i + (l.length - (i + 1)) = l.length - 1 := by omega
  have hA : List.take (((i : Int).toNat - 0) * 4) (flat pkC l ++ j) ++ List.take ((l.length - ((i + 1 : Nat) : Int).toNat) * 4) (List.drop (0 + ((i + 1 : Nat) : Int).toNat * 4) (flat pkC l ++ j)) ++ List.drop (((i : Int).toNat - 0 + (l.length - ((i + 1 : Nat) : Int).toNat)) * 4) (flat pkC l ++ j) = flat pkC (l.eraseIdx i) ++ (X ++ j) := by
    show List.take (i * 4) (flat pkC l ++ j) ++ List.take ((l.length - (i + 1)) * 4) (List.drop (0 + (i + 1) * 4) (flat pkC l ++ j)) ++ List.drop ((i + (l.length - (i + 1))) * 4) (flat pkC l ++ j) = _
    rw [hhead, hnew, hmid, hM, hX.1]
  have hel : (flat pkC (l.eraseIdx i)).length = (l.length - 1) * 4 := by rw [pk_flat]; omega
  have hAl : (flat pkC (l.eraseIdx i) ++ (X ++ j)).length = l.length * 4 + j.length := by simp only [List.length_append, hel, hX.2]; omega
  refine W.need ⟨rfl, rfl, rfl, ?_, ?_, ?_, ?_, ?_⟩ ?_
  · show i * 4 ≤ _; rw [hcl]; omega
  · show (l.length - (i + 1)) * 4 = (List.take ((l.length - (i + 1)) * 4) (List.drop (0 + (i + 1) * 4) (flat pkC l ++ j))).length; rw [hnew, hnl]
  · show (i + (l.length - (i + 1))) * 40 ≤ _; omega
  · show i + (l.length - (i + 1)) ≤ _; omega
  · show ∀ c ∈ (List.take ((l.length - (i + 1)) * 4) (List.drop (0 + (i + 1) * 4) (flat pkC l ++ j))), c.one = true; rw [hnew]; exact flat_one pkC_one _
  refine W.ite_t ?_ ?_
  · show Nat.ble ((i + (l.length - (i + 1))) * 4) _ = true; rw [Nat.ble_eq, hcl]; omega
  refine W.cond_t (be e) ?_
  refine W.need ?_ ?_
  · rw [hA, hAl]; show 0 + (i + (l.length - (i + 1))) * 4 ≤ _; omega
  refine W.need ⟨?_, ?_⟩ ?_
  · omega
  · rw [hA, hAl]; omega
  refine W.need ⟨?_, ?_⟩ ?_
  · omega
  · show ((i + (l.length - (i + 1)) : Nat) : Int) ≤ (l.length : Int); omega
  refine W.cond_t (by simp) ?_
  refine W.need ?_ ?_
  · rw [hA, hAl]; show 0 + (i + (l.length - (i + 1))) * 4 + (l.length - (i + (l.length - (i + 1)))) * 4 ≤ _; omega
  refine W.ret (RetQ.part [0] (by decide) (by simp) keep1 ⟨?_, ?_⟩)
  · show AV.row 0 e 0 (i + (l.length - (i + 1))) = _
    rw [hM, show l.length - 1 = (l.eraseIdx i).length from by omega]
  · refine congrArg (fun x => [Blk.row 4 e x]) ?_
    rw [hA]
    show List.take (0 + (i + (l.length - (i + 1))) * 4) (flat pkC (l.eraseIdx i) ++ (X ++ j)) ++ (List.replicate (l.length - (i + (l.length - (i + 1)))) (pkC pk0)).flatten ++ List.drop (0 + (i + (l.length - (i + 1))) * 4 + (l.length - (i + (l.length - (i + 1)))) * 4) (flat pkC (l.eraseIdx i) ++ (X ++ j)) = _
    rw [hM, Nat.zero_add, show l.length - (l.length - 1) = 1 from by omega, List.take_left' hel, ← List.drop_drop, List.drop_left' hel, Nat.one_mul, List.drop_left' hX.2]
    simp [List.append_assoc]
abbrev rT (p : Pk) (c : D) : AV := .tuple [.d (.agg (pkC p)), .d c]
abbrev rN (n : Int) (c : D) : AV := .tuple [.d (nI n), .d c]
theorem ok9N (b : B) (x : Int) (hl : b.l.length ≤ 1000000) (h : ixI x b.l = -1) : CallOk Try.prog 9 [.ptr 1 0, .d (nI x)] (bS b) (fun v s => v = rT pk0 (fE 9) ∧ s = bS b) := by
  refine CallOk.of tysOk mixed od9 Try.func9 rfl rfl code9 ?_
  have k := ok33 b x hl
  rw [h] at k
  refine W.callF [0, 1] (bS b ++ [.var [.d (nI 0), .d (nI 0), .d (nI 0), .d (sD ⟨#[]⟩)]]) k (by decide) rfl rfl rfl rfl rfl rfl ?_
  refine W.ite_t rfl ?_
  refine W.pure (ok32 9) rfl rfl ?_
  exact W.ret (RetQ.part [0, 1] (by decide) (by simp) keep2 ⟨rfl, rfl⟩)
set_option maxHeartbeats 4000000 in
theorem ok9S (b : B) (x : Int) (hl : b.l.length ≤ 1000000) {i : Nat} {p : Pk} (h : ixI x b.l = i) (hp : b.l[i]? = some p) :
    CallOk Try.prog 9 [.ptr 1 0, .d (nI x)] (bS b) (fun v s => v = rT p (.lit .nilIface) ∧ s = bS { b with l := b.l.eraseIdx i, j := pkC pk0 ++ b.j }) := by
  refine CallOk.of tysOk mixed od9 Try.func9 rfl rfl code9 ?_
  have hil := (List.getElem?_eq_some_iff.1 hp).1
  have k := ok33 b x hl
  rw [h] at k
  have kd := ok34 b.e b.l i hil hl b.j
  have g1 : IntKind.i64.wrap ((i : Int) + 1) = ((i + 1 : Nat) : Int) := by rw [wrap64 (by omega) (by omega)]; rfl
  rw [← g1] at kd
  have c1 : decide ((i : Int) < 0) = false := decide_eq_false (by omega)
  refine W.callF [0, 1] (bS b ++ [.var [.d (nI 0), .d (nI 0), .d (nI 0), .d (sD ⟨#[]⟩)]]) k (by decide) rfl rfl rfl rfl rfl rfl ?_
  refine W.ite_f c1 ?_
  refine W.cond_t (be b.e) ?_
  refine W.need ⟨by omega, by omega⟩ ?_
  refine W.cond_t (be b.e) ?_
  refine W.ld (pkE hp b.j) ?_
  refine W.callF [0] ([rowS b.e (b.l.eraseIdx i) (pkC pk0 ++ b.j), .var [.d (nI b.n), .row 0 b.e 0 b.l.length], .var [.d (nI 0), .d (nI 0), .d (nI 0), .d (sD ⟨#[]⟩)], .var [.d (nI p.id), .d (nI p.fr), .d (nI p.to), .d (sD p.tx)]]) kd (by decide) rfl rfl rfl rfl rfl rfl ?_
  exact W.ret (RetQ.part [0, 1] (by decide) (by simp) keep2 ⟨rfl, rfl⟩)
theorem ok8B (b : B) (f t : Int) (s : ByteArray) (h : s.size > 2000) : CallOk Try.prog 8 [.ptr 1 0, .d (nI f), .d (nI t), .d (sD s)] (bS b) (fun v s' => v = rN 0 (fE 1) ∧ s' = bS b) := by
  refine CallOk.of tysOk mixed od8 Try.func8 rfl rfl code8 ?_
  have c1 : decide ((s.size : Int) > 2000) = true := decide_eq_true (by omega)
  refine W.ite_t c1 ?_
  refine W.pure (ok32 1) rfl rfl ?_
  exact W.ret (RetQ.part [0, 1] (by decide) (by simp) keep2 ⟨rfl, rfl⟩)
theorem ok8F (b : B) (f t : Int) (s : ByteArray) (h : s.size ≤ 2000) (hl : b.l.length ≥ 4000) : CallOk Try.prog 8 [.ptr 1 0, .d (nI f), .d (nI t), .d (sD s)] (bS b) (fun v s' => v = rN 0 (fE 4) ∧ s' = bS b) := by
  refine CallOk.of tysOk mixed od8 Try.func8 rfl rfl code8 ?_
  have c1 : decide ((s.size : Int) > 2000) = false := decide_eq_false (by omega)
  have c2 : decide ((b.l.length : Int) ≥ 4000) = true := decide_eq_true (by omega)
  refine W.ite_f c1 ?_
  refine W.ite_t c2 ?_
  refine W.pure (ok32 4) rfl rfl ?_
  exact W.ret (RetQ.part [0, 1] (by decide) (by simp) keep2 ⟨rfl, rfl⟩)
/-- A bag, as far as it is seen. -/
def bR (n : Int) (l : List Pk) (s : Store) : Prop := ∃ e j, s = bS ⟨n, l, e, j⟩
set_option maxHeartbeats 4000000 in
theorem ok8S (b : B) (f t : Int) (s : ByteArray) (h : s.size ≤ 2000) (hl : b.l.length < 4000) (hn : 0 ≤ b.n ∧ b.n ≤ 1000000000) :
    CallOk Try.prog 8 [.ptr 1 0, .d (nI f), .d (nI t), .d (sD s)] (bS b) (fun v s' => v = rN (b.n + 1) (.lit .nilIface) ∧ bR (b.n + 1) (b.l ++ [⟨b.n + 1, f, t, s⟩]) s') := by
  refine CallOk.of tysOk mixed od8 Try.func8 rfl rfl code8 ?_
  have c1 : decide ((s.size : Int) > 2000) = false := decide_eq_false (by omega)
  have c2 : decide ((b.l.length : Int) ≥ 4000) = false := decide_eq_false (by omega)
  have g1 : IntKind.i64.wrap (b.n + 1) = b.n + 1 := wrap64 (by omega) (by omega)
  have hfl := pk_flat b.l
  have hcl : (flat pkC b.l ++ b.j).length = b.l.length * 4 + b.j.length := by rw [List.length_append, hfl]
  have hone : ∀ c ∈ pkC ⟨IntKind.i64.wrap (b.n + 1), f, t, s⟩, c.one = true := pkC_one _
  refine W.ite_f c1 ?_
  refine W.ite_f c2 ?_
  refine W.alt_l ?_
  refine W.need ⟨rfl, rfl, rfl, by rw [hcl]; omega, rfl, by omega, by omega, hone⟩ ?_
  have hnew : flat pkC b.l ++ pkC ⟨b.n + 1, f, t, s⟩ = flat pkC (b.l ++ [⟨b.n + 1, f, t, s⟩]) := by rw [flat_append]; rfl
  have hlen : b.l.length + 1 = (b.l ++ [(⟨b.n + 1, f, t, s⟩ : Pk)]).length := by simp
  have hd : (flat pkC b.l ++ b.j).take (b.l.length * 4) = flat pkC b.l := List.take_left' hfl
  refine W.ite (fun c3 => ?_) (fun c3 => ?_)
  · refine W.ret (RetQ.part [0, 1] (by decide) (by simp) keep2 ⟨?_, b.e, (flat pkC b.l ++ b.j).drop ((b.l.length + 1) * 4), ?_⟩)
    · show rN (IntKind.i64.wrap (b.n + 1)) _ = _
      rw [g1]
    · show [Blk.row 4 b.e ((flat pkC b.l ++ b.j).take (b.l.length * 4) ++ pkC ⟨IntKind.i64.wrap (b.n + 1), f, t, s⟩ ++ (flat pkC b.l ++ b.j).drop ((b.l.length + 1) * 4)), .var [.d (nI (IntKind.i64.wrap (b.n + 1))), .row 0 b.e 0 (b.l.length + 1)]] = _
      rw [g1, hd, hnew, hlen]
  · refine W.ret (RetQ.part [0, 1] (by decide) (by simp) keep2 ⟨?_, b.e + 1, [], ?_⟩)
    · show rN (IntKind.i64.wrap (b.n + 1)) _ = _
      rw [g1]
    · show [Blk.row 4 (b.e + 1) ((flat pkC b.l ++ b.j).take (b.l.length * 4) ++ pkC ⟨IntKind.i64.wrap (b.n + 1), f, t, s⟩), .var [.d (nI (IntKind.i64.wrap (b.n + 1))), .row 0 (b.e + 1) 0 (b.l.length + 1)]] = _
      rw [g1, hd, hnew, hlen, ← List.append_nil (flat pkC (b.l ++ _))]
theorem ok12N (b : B) (x : Int) (hl : b.l.length ≤ 1000000) (h : ixI x b.l = -1) : CallOk Try.prog 12 [.ptr 1 0, .d (nI x)] (bS b) (fun v s => v = rN 0 (fE 9) ∧ s = bS b) := by
  refine CallOk.of tysOk mixed od12 Try.func12 rfl rfl code12 ?_
  have k := ok33 b x hl
  rw [h] at k
  refine W.callF [0, 1] (bS b) k (by decide) rfl rfl rfl rfl rfl rfl ?_
  refine W.ite_t rfl ?_
  refine W.pure (ok32 9) rfl rfl ?_
  exact W.ret (RetQ.part [0, 1] (by decide) (by simp) keep2 ⟨rfl, rfl⟩)
/-- A copy is a packet that is sent. -/
theorem ok12S (b : B) (x : Int) (hl : b.l.length ≤ 1000000) {i : Nat} {p : Pk} (h : ixI x b.l = i) (hp : b.l[i]? = some p) {n : Int} {c : D} {R : Store → Prop} (hR : ∀ s, R s → ∃ n' l' e' j', s = bS ⟨n', l', e', j'⟩)
    (ks : CallOk Try.prog 8 [.ptr 1 0, .d (nI p.fr), .d (nI p.to), .d (sD p.tx)] (bS b) (fun v s => v = rN n c ∧ R s)) (hc : c = .lit .nilIface ∨ c = fE 1 ∨ c = fE 4) :
    CallOk Try.prog 12 [.ptr 1 0, .d (nI x)] (bS b) (fun v s => v = rN n c ∧ R s) := by
  refine CallOk.of tysOk mixed od12 Try.func12 rfl rfl code12 ?_
  have hil := (List.getElem?_eq_some_iff.1 hp).1
  have k := ok33 b x hl
  rw [h] at k
  have c1 : decide ((i : Int) < 0) = false := decide_eq_false (by omega)
  refine W.callF [0, 1] (bS b) k (by decide) rfl rfl rfl rfl rfl rfl ?_
  refine W.ite_f c1 ?_
  refine W.cond_t (be b.e) ?_
  refine W.need ⟨by omega, by omega⟩ ?_
  refine W.cond_t (be b.e) ?_
  refine W.ld (pkF1 hp b.j) ?_
  refine W.cond_t (b := Nat.beq 4 4 && Nat.beq b.e b.e) (be b.e) ?_
  refine W.need ⟨by omega, by omega⟩ ?_
  refine W.cond_t (be b.e) ?_
  refine W.ld (pkF2 hp b.j) ?_
  refine W.cond_t (b := Nat.beq 4 4 && Nat.beq b.e b.e) (be b.e) ?_
  refine W.need ⟨by omega, by omega⟩ ?_
  refine W.cond_t (be b.e) ?_
  refine W.ld (pkF3 hp b.j) ?_
  refine W.callT [0, 1] ks (by decide) rfl rfl rfl rfl ?_
  rintro v s ⟨rfl, hs⟩
  obtain ⟨n', l', e', j', rfl⟩ := hR s hs
  rcases hc with rfl | rfl | rfl
  all_goals exact W.ret (RetQ.part [0, 1] (by decide) (by show ∀ i ∈ [0, 1], i < 2; simp) keep2 ⟨rfl, hs⟩)
end Go.Proofs.Ytddhlmejaobcgaa.Bg
