/-
 A line of StatsD: it is read, or a fault is told, whatever it is. A line of Graphite: it is read, or a fault is told, whatever it is.
-/
import Derived.Test.YtngmgpmkjdacaaaGreatDoorMLayC
import Derived.Test.YtngmgpmkjdacaaaGreatDoorMGraph
set_option linter.unusedSimpArgs false
set_option linter.unusedVariables false
namespace Go.Eng
open Go Go.Proofs

/-- a line's reading, whatever it tells -/
def Reads (f : FuncId) : Prop := ∀ l : List UInt8, l.length ≤ 1000000 → ∃ out, FnM f [.string ⟨l.toArray⟩] out

theorem FF_40 (a b : Val) : FF 40 a b = (tab sp 4 (unpack a)).getD 0 (.i 0) := FF_at (id := 4) (j := 0) (by omega) (by omega) a b
theorem FF_42 (a b : Val) : FF 42 a b = (tab sp 4 (unpack a)).getD 2 (.i 0) := FF_at (id := 4) (j := 2) (by omega) (by omega) a b
theorem FF_50 (a b : Val) : FF 50 a b = (tab sp 5 (unpack a)).getD 0 (.i 0) := FF_at (id := 5) (j := 0) (by omega) (by omega) a b
theorem FF_52 (a b : Val) : FF 52 a b = (tab sp 5 (unpack a)).getD 2 (.i 0) := FF_at (id := 5) (j := 2) (by omega) (by omega) a b
theorem FF_220 (a b : Val) : FF 220 a b = (tab sp 22 (unpack a)).getD 0 (.i 0) := FF_at (id := 22) (j := 0) (by omega) (by omega) a b
theorem cut4 (v : Val) (h : v.toS.length ≤ 1000000) : ((tab sp 4 [v]).getD 0 (.i 0)).toS.length ≤ v.toS.length ∧ (((tab sp 4 [v]).getD 2 (.i 0)).toB = true → ((tab sp 4 [v]).getD 0 (.i 0)).toS.length + 1 ≤ v.toS.length) := by
 have h1 : (((tab sp 4 [v]).getD 2 (.i 0)).toB = true → ((tab sp 4 [v]).getD 0 (.i 0)).toS.length + 1 + ((tab sp 4 [v]).getD 1 (.i 0)).toS.length = v.toS.length) ∧
  (((tab sp 4 [v]).getD 2 (.i 0)).toB = false → ((tab sp 4 [v]).getD 0 (.i 0)).toS.length = v.toS.length ∧ ((tab sp 4 [v]).getD 1 (.i 0)).toS.length = 0) := post_of told4 (vs := [v]) rfl ⟨h, trivial⟩
 cases hb : ((tab sp 4 [v]).getD 2 (.i 0)).toB with
 | true => have := h1.1 hb; exact ⟨by omega, fun _ => by omega⟩
 | false => have := h1.2 hb; exact ⟨by omega, fun h => by cases h⟩
theorem cut5 (v : Val) (h : v.toS.length ≤ 1000000) : ((tab sp 5 [v]).getD 0 (.i 0)).toS.length ≤ v.toS.length ∧ (((tab sp 5 [v]).getD 2 (.i 0)).toB = true → ((tab sp 5 [v]).getD 0 (.i 0)).toS.length + 1 ≤ v.toS.length) := by
 have h1 : (((tab sp 5 [v]).getD 2 (.i 0)).toB = true → ((tab sp 5 [v]).getD 0 (.i 0)).toS.length + 1 + ((tab sp 5 [v]).getD 1 (.i 0)).toS.length = v.toS.length) ∧
  (((tab sp 5 [v]).getD 2 (.i 0)).toB = false → ((tab sp 5 [v]).getD 0 (.i 0)).toS.length = v.toS.length ∧ ((tab sp 5 [v]).getD 1 (.i 0)).toS.length = 0) := post_of told5 (vs := [v]) rfl ⟨h, trivial⟩
 cases hb : ((tab sp 5 [v]).getD 2 (.i 0)).toB with
 | true => have := h1.1 hb; exact ⟨by omega, fun _ => by omega⟩
 | false => have := h1.2 hb; exact ⟨by omega, fun h => by cases h⟩
theorem has22 (v : Val) (h : v.toS.length ≤ 1000000) : ((tab sp 22 [v]).getD 0 (.i 0)).toB = true → 1 ≤ v.toS.length := post_of told22 (vs := [v]) rfl ⟨h, trivial⟩

theorem statsd_oracles : ∀ i ∈ [4, 5, 9, 12, 13, 17, 20, 22], 1 ≤ i ∧ Told (sp i) := fun i hi => by
 simp only [List.mem_cons, List.not_mem_nil, or_false] at hi
 rcases hi with rfl | rfl | rfl | rfl | rfl | rfl | rfl | rfl
 ·exact ⟨by omega, told4⟩
 ·exact ⟨by omega, told5⟩
 ·exact ⟨by omega, told9⟩
 ·exact ⟨by omega, told12⟩
 ·exact ⟨by omega, told13⟩
 ·exact ⟨by omega, told17⟩
 ·exact ⟨by omega, told20⟩
 ·exact ⟨by omega, told22⟩

noncomputable def g60c0 : ACfg := entryC 60 [(.sym (.v .str 0))]
noncomputable def yE_0 : Nat × AV := (5, (.fn (.func 100) [] [(.ptr 11 0), (.ptr 8 0)]))
noncomputable def yE_1 : AObj := .cells 197 [(.iface 389 .unk)] false false
noncomputable def yE_2 : Nat × AObj := (8, (.cells 9 [(.sym (.v .str 0))] true false))
noncomputable def yE_3 : AV := .at (.int .i64 0)
noncomputable def yE_4 : AV := .at (.slice none 0 0)
noncomputable def yE_5 : Nat × AObj := (9, (.cells 42 [(.str []), yE_3, yE_4, yE_3, yE_4, yE_3] true false))
noncomputable def yE_6 : Nat × AObj := (10, (.cells 127 [yE_3, yE_3] true false))
noncomputable def yE_7 : Nat × AObj := (12, (.cells 42 [(.str []), yE_3, yE_4, (.at (.int .i64 1000000)), yE_4, yE_3] true false))
noncomputable def yE_8 : AObj := .cells 36 [(.sym (.v .bool 14)), (.sym (.v (.int .u64) 15)), (.sym (.v (.int .i64) 16))] true false
noncomputable def yE_9 : Nat × AObj := (14, (.cells 127 [(.sym (.v (.int .i64) 17)), (.sym (.v (.int .i64) 18))] true false))
def wE_0 : Tok := .ki .i64 0
def wE_1 : Tok := .fn .str 40 (.fn .str 0 (.sub (.v .str 0) wE_0 (.len (.v .str 0))) wE_0) wE_0
def wE_2 : Tok := .fn .str 50 (.fn .str 0 (.sub (.v .str 0) (.v (.int .i64) 11) (.len (.v .str 0))) wE_0) wE_0
def wE_3 : Tok := .fn .str 0 wE_2 wE_0
def wE_4 : Tok := .fn .str 50 (.fn .str 0 (.sub (.v .str 0) (.v (.int .i64) 13) (.len (.v .str 0))) wE_0) wE_0
def wE_5 : List (Nat × Tok) := [(20, (.ar 0 .i64 (.ar 0 .i64 (.v (.int .i64) 13) (.len wE_4)) (.ki .i64 1))), (19, (.fn (.int .i64) 170 (.fn .str 0 wE_4 wE_0) wE_0))]
noncomputable def g60c1 : ACfg := ⟨⟨60, (tu 154 [(1, (.ptr 8 0)), (2, (.ptr 9 0)), (3, (.ptr 10 0)), (4, (.ptr 11 0)), yE_0, (6, (.ptr 12 0)), (7, (.sym (.v .str 10))), (9, (.at (.bool true))), (10, uu), (11, uu)]), [(.code (cd 60 [1, 1, 1, 1, 1, 1, 1, 0])), (.code (cd 60 [1, 1, 1, 1, 1, 1, 1, 1]))], [], false, false, none⟩, [], ⟨hT [(6, yE_1), (7, yE_1), yE_2, yE_5, yE_6, (11, (.cells 3 [(.sym (.v (.int .i64) 11))] true false)), yE_7], 13⟩⟩
noncomputable def g60c2 : ACfg := ⟨⟨60, (tu 154 [(1, (.ptr 8 0)), (2, (.ptr 9 0)), (3, (.ptr 10 0)), (4, (.ptr 11 0)), yE_0, (6, (.ptr 12 0)), (7, (.sym (.v .str 10))), (9, (.at (.bool true))), (10, (.sym (.v .str 12))), (11, (.sym (.v (.int .i64) 11))), (12, (.ptr 13 0)), (13, (.ptr 14 0))]), [(.code (cd 60 [1, 1, 1, 1, 1, 1, 1, 1, 1, 1, 1, 0])), (.code (cd 60 [1, 1, 1, 1, 1, 1, 1, 1, 1, 1, 1, 1]))], [], false, false, none⟩, [], ⟨hT [(6, yE_1), (7, yE_1), yE_2, yE_5, yE_6, (11, (.cells 3 [(.sym (.v (.int .i64) 13))] true false)), yE_7, (13, yE_8), yE_9], 15⟩⟩
noncomputable def g60c3 : ACfg := ⟨⟨60, (tu 154 [(1, (.ptr 8 0)), (2, (.ptr 9 0)), (3, (.ptr 10 0)), (4, (.ptr 11 0)), yE_0, (6, (.ptr 12 0)), (13, (.ptr 14 0)), (16, (.sym (.v (.int .i64) 19)))]), [(.code (cd 60 [1, 1, 1, 1, 1, 1, 1, 1, 1, 1, 1, 1, 1, 1, 1, 1, 0, 0])), (.code (cd 60 [1, 1, 1, 1, 1, 1, 1, 1, 1, 1, 1, 1, 1, 1, 1, 1, 0, 1])), (.code (cd 60 [1, 1, 1, 1, 1, 1, 1, 1, 1, 1, 1, 1, 1, 1, 1, 1, 1]))], [], false, false, none⟩, [], ⟨hT [(6, yE_1), (7, yE_1), yE_2, yE_5, yE_6, (11, (.cells 3 [(.sym (.v (.int .i64) 20))] true false)), (12, (.cells 42 [(.sym (.v .str 10)), (.sym (.v (.int .i64) 19)), (.sl 15 0 1 1 3 true), (.at (.int .i64 1000000)), yE_4, yE_3] true false)), (13, yE_8), yE_9, (15, yE_8)], 16⟩⟩
def g60s0 : Sub := [(11, (.ar 0 .i64 (.ar 0 .i64 wE_0 (.len wE_1)) (.ki .i64 1))), (10, wE_1)]
theorem g60s0_ (ι : Asn) : SV ι g60s0 .str 0 ∧ SA ι g60s0 (.int .i64) 11 (.ar 0 .i64 (.ar 0 .i64 (.ki .i64 0) (.len (.fn .str 40 (.fn .str 0 (.sub (.v .str 0) (.ki .i64 0) (.len (.v .str 0))) (.ki .i64 0)) (.ki .i64 0)))) (.ki .i64 1)) := ⟨rfl, rfl⟩
def g60s1 : Sub := [(18, (.fn (.int .i64) 124 wE_3 wE_0)), (17, (.fn (.int .i64) 123 wE_3 wE_0)), (16, (.fn (.int .i64) 122 wE_3 wE_0)), (15, (.fn (.int .u64) 121 wE_3 wE_0)), (14, (.fn .bool 120 wE_3 wE_0)), (13, (.ar 0 .i64 (.ar 0 .i64 (.v (.int .i64) 11) (.len wE_2)) (.ki .i64 1))), (12, wE_2)]
theorem g60s1_ (ι : Asn) : SV ι g60s1 .str 0 ∧ SA ι g60s1 (.int .i64) 13 (.ar 0 .i64 (.ar 0 .i64 (.v (.int .i64) 11) (.len (.fn .str 50 (.fn .str 0 (.sub (.v .str 0) (.v (.int .i64) 11) (.len (.v .str 0))) (.ki .i64 0)) (.ki .i64 0)))) (.ki .i64 1)) ∧ SA ι g60s1 .str 12 (.fn .str 50 (.fn .str 0 (.sub (.v .str 0) (.v (.int .i64) 11) (.len (.v .str 0))) (.ki .i64 0)) (.ki .i64 0)) := ⟨rfl, rfl, rfl⟩
def g60s2 : Sub := wE_5
theorem g60s2_ (ι : Asn) : SV ι g60s2 .str 0 ∧ SA ι g60s2 (.int .i64) 20 (.ar 0 .i64 (.ar 0 .i64 (.v (.int .i64) 13) (.len (.fn .str 50 (.fn .str 0 (.sub (.v .str 0) (.v (.int .i64) 13) (.len (.v .str 0))) (.ki .i64 0)) (.ki .i64 0)))) (.ki .i64 1)) := ⟨rfl, rfl⟩
def g60s3 : Sub := wE_5
theorem g60s3_ (ι : Asn) : SV ι g60s3 .str 0 ∧ SA ι g60s3 (.int .i64) 20 (.ar 0 .i64 (.ar 0 .i64 (.v (.int .i64) 13) (.len (.fn .str 50 (.fn .str 0 (.sub (.v .str 0) (.v (.int .i64) 13) (.len (.v .str 0))) (.ki .i64 0)) (.ki .i64 0)))) (.ki .i64 1)) := ⟨rfl, rfl⟩
def g60t0 : LTree := (.fork (.cmp 3 (.ki .i64 0) (.len (.v .str 0))) (.fork (.cmp 3 (.len (.sub (.v .str 0) (.ki .i64 0) (.len (.v .str 0)))) (.ki .i64 1000000)) (.fork (.fn .bool 42 (.fn .str 0 (.sub (.v .str 0) (.ki .i64 0) (.len (.v .str 0))) (.ki .i64 0)) (.ki .i64 0)) (.fork (.cmp 3 (.len (.fn .str 40 (.fn .str 0 (.sub (.v .str 0) (.ki .i64 0) (.len (.v .str 0))) (.ki .i64 0)) (.ki .i64 0))) (.ki .i64 1000000)) (.fork (.cmp 0 (.fn (.int .i64) 90 (.fn .str 0 (.ki .i64 1) (.fn .str 0 (.fn .str 40 (.fn .str 0 (.sub (.v .str 0) (.ki .i64 0) (.len (.v .str 0))) (.ki .i64 0)) (.ki .i64 0)) (.fn .str 0 (.ki .i64 1) (.fn .str 0 (.ki .i64 200) (.ki .i64 0))))) (.ki .i64 0)) (.ki .i64 0)) (.fork (.cmp 0 (.fn (.int .i64) 91 (.fn .str 0 (.ki .i64 1) (.fn .str 0 (.fn .str 40 (.fn .str 0 (.sub (.v .str 0) (.ki .i64 0) (.len (.v .str 0))) (.ki .i64 0)) (.ki .i64 0)) (.fn .str 0 (.ki .i64 1) (.fn .str 0 (.ki .i64 200) (.ki .i64 0))))) (.ki .i64 0)) (.ki .i64 0)) (.to 1 g60s0 111) (.done (.tup [(.agg [(.str []), (.at (.int .i64 0)), (.at (.int .i64 0)), (.at (.int .i64 0)), (.at (.int .i64 15)), (.at (.int .i64 0))]), (.agg [])]))) (.done (.tup [(.agg [(.str []), (.at (.int .i64 0)), (.at (.int .i64 0)), (.at (.int .i64 0)), (.at (.int .i64 15)), (.at (.int .i64 0))]), (.agg [])]))) .dead) (.fork (.cmp 3 (.len (.fn .str 40 (.fn .str 0 (.sub (.v .str 0) (.ki .i64 0) (.len (.v .str 0))) (.ki .i64 0)) (.ki .i64 0))) (.ki .i64 1000000)) (.fork (.cmp 0 (.fn (.int .i64) 90 (.fn .str 0 (.ki .i64 1) (.fn .str 0 (.fn .str 40 (.fn .str 0 (.sub (.v .str 0) (.ki .i64 0) (.len (.v .str 0))) (.ki .i64 0)) (.ki .i64 0)) (.fn .str 0 (.ki .i64 1) (.fn .str 0 (.ki .i64 200) (.ki .i64 0))))) (.ki .i64 0)) (.ki .i64 0)) (.fork (.cmp 0 (.fn (.int .i64) 91 (.fn .str 0 (.ki .i64 1) (.fn .str 0 (.fn .str 40 (.fn .str 0 (.sub (.v .str 0) (.ki .i64 0) (.len (.v .str 0))) (.ki .i64 0)) (.ki .i64 0)) (.fn .str 0 (.ki .i64 1) (.fn .str 0 (.ki .i64 200) (.ki .i64 0))))) (.ki .i64 0)) (.ki .i64 0)) (.done (.tup [(.agg [(.str []), (.at (.int .i64 0)), (.at (.int .i64 0)), (.at (.int .i64 0)), (.at (.int .i64 11)), (.sym (.len (.v .str 0)))]), (.agg [])])) (.done (.tup [(.agg [(.str []), (.at (.int .i64 0)), (.at (.int .i64 0)), (.at (.int .i64 0)), (.at (.int .i64 15)), (.at (.int .i64 0))]), (.agg [])]))) (.done (.tup [(.agg [(.str []), (.at (.int .i64 0)), (.at (.int .i64 0)), (.at (.int .i64 0)), (.at (.int .i64 15)), (.at (.int .i64 0))]), (.agg [])]))) .dead)) .dead) .dead)
def g60t1 : LTree := (.fork (.cmp 3 (.ki .i64 0) (.v (.int .i64) 11)) (.fork (.cmp 3 (.v (.int .i64) 11) (.len (.v .str 0))) (.fork (.cmp 3 (.len (.sub (.v .str 0) (.v (.int .i64) 11) (.len (.v .str 0)))) (.ki .i64 1000000)) (.fork (.fn .bool 52 (.fn .str 0 (.sub (.v .str 0) (.v (.int .i64) 11) (.len (.v .str 0))) (.ki .i64 0)) (.ki .i64 0)) (.fork (.cmp 3 (.len (.fn .str 50 (.fn .str 0 (.sub (.v .str 0) (.v (.int .i64) 11) (.len (.v .str 0))) (.ki .i64 0)) (.ki .i64 0))) (.ki .i64 1000000)) (.fork (.cmp 0 (.fn (.int .i64) 123 (.fn .str 0 (.fn .str 50 (.fn .str 0 (.sub (.v .str 0) (.v (.int .i64) 11) (.len (.v .str 0))) (.ki .i64 0)) (.ki .i64 0)) (.ki .i64 0)) (.ki .i64 0)) (.ki .i64 0)) (.fork (.cmp 0 (.fn (.int .i64) 124 (.fn .str 0 (.fn .str 50 (.fn .str 0 (.sub (.v .str 0) (.v (.int .i64) 11) (.len (.v .str 0))) (.ki .i64 0)) (.ki .i64 0)) (.ki .i64 0)) (.ki .i64 0)) (.ki .i64 0)) (.to 2 g60s1 99) (.done (.tup [(.agg [(.str []), (.at (.int .i64 0)), (.at (.int .i64 0)), (.at (.int .i64 0)), (.at (.int .i64 17)), (.sym (.v (.int .i64) 11))]), (.agg [])]))) (.done (.tup [(.agg [(.str []), (.at (.int .i64 0)), (.at (.int .i64 0)), (.at (.int .i64 0)), (.at (.int .i64 17)), (.sym (.v (.int .i64) 11))]), (.agg [])]))) .dead) (.fork (.cmp 3 (.len (.fn .str 50 (.fn .str 0 (.sub (.v .str 0) (.v (.int .i64) 11) (.len (.v .str 0))) (.ki .i64 0)) (.ki .i64 0))) (.ki .i64 1000000)) (.fork (.cmp 0 (.fn (.int .i64) 123 (.fn .str 0 (.fn .str 50 (.fn .str 0 (.sub (.v .str 0) (.v (.int .i64) 11) (.len (.v .str 0))) (.ki .i64 0)) (.ki .i64 0)) (.ki .i64 0)) (.ki .i64 0)) (.ki .i64 0)) (.fork (.cmp 0 (.fn (.int .i64) 124 (.fn .str 0 (.fn .str 50 (.fn .str 0 (.sub (.v .str 0) (.v (.int .i64) 11) (.len (.v .str 0))) (.ki .i64 0)) (.ki .i64 0)) (.ki .i64 0)) (.ki .i64 0)) (.ki .i64 0)) (.done (.tup [(.agg [(.str []), (.at (.int .i64 0)), (.at (.int .i64 0)), (.at (.int .i64 0)), (.at (.int .i64 11)), (.sym (.len (.v .str 0)))]), (.agg [])])) (.done (.tup [(.agg [(.str []), (.at (.int .i64 0)), (.at (.int .i64 0)), (.at (.int .i64 0)), (.at (.int .i64 17)), (.sym (.v (.int .i64) 11))]), (.agg [])]))) (.done (.tup [(.agg [(.str []), (.at (.int .i64 0)), (.at (.int .i64 0)), (.at (.int .i64 0)), (.at (.int .i64 17)), (.sym (.v (.int .i64) 11))]), (.agg [])]))) .dead)) .dead) .dead) .dead)
def g60t2 : LTree := (.fork (.cmp 3 (.ki .i64 0) (.v (.int .i64) 13)) (.fork (.cmp 3 (.v (.int .i64) 13) (.len (.v .str 0))) (.fork (.cmp 3 (.len (.sub (.v .str 0) (.v (.int .i64) 13) (.len (.v .str 0)))) (.ki .i64 1000000)) (.fork (.fn .bool 52 (.fn .str 0 (.sub (.v .str 0) (.v (.int .i64) 13) (.len (.v .str 0))) (.ki .i64 0)) (.ki .i64 0)) (.fork (.cmp 3 (.len (.fn .str 50 (.fn .str 0 (.sub (.v .str 0) (.v (.int .i64) 13) (.len (.v .str 0))) (.ki .i64 0)) (.ki .i64 0))) (.ki .i64 1000000)) (.fork (.cmp 1 (.fn (.int .i64) 171 (.fn .str 0 (.fn .str 50 (.fn .str 0 (.sub (.v .str 0) (.v (.int .i64) 13) (.len (.v .str 0))) (.ki .i64 0)) (.ki .i64 0)) (.ki .i64 0)) (.ki .i64 0)) (.ki .i64 0)) (.done (.tup [(.agg [(.str []), (.at (.int .i64 0)), (.at (.int .i64 0)), (.at (.int .i64 0)), (.at (.int .i64 16)), (.sym (.v (.int .i64) 13))]), (.agg [])])) (.fork (.cmp 0 (.fn (.int .i64) 170 (.fn .str 0 (.fn .str 50 (.fn .str 0 (.sub (.v .str 0) (.v (.int .i64) 13) (.len (.v .str 0))) (.ki .i64 0)) (.ki .i64 0)) (.ki .i64 0)) (.ki .i64 0)) (.ki .i64 2)) (.fork (.cmp 3 (.len (.v .str 12)) (.ki .i64 1000000)) (.fork (.fn .bool 200 (.fn .str 0 (.v .str 12) (.ki .i64 0)) (.ki .i64 0)) (.done (.tup [(.agg [(.str []), (.at (.int .i64 0)), (.at (.int .i64 0)), (.at (.int .i64 0)), (.at (.int .i64 26)), (.sym (.v (.int .i64) 11))]), (.agg [])])) (.to 3 g60s2 117)) .dead) (.to 3 g60s3 117))) .dead) (.fork (.cmp 3 (.len (.fn .str 50 (.fn .str 0 (.sub (.v .str 0) (.v (.int .i64) 13) (.len (.v .str 0))) (.ki .i64 0)) (.ki .i64 0))) (.ki .i64 1000000)) (.fork (.cmp 1 (.fn (.int .i64) 171 (.fn .str 0 (.fn .str 50 (.fn .str 0 (.sub (.v .str 0) (.v (.int .i64) 13) (.len (.v .str 0))) (.ki .i64 0)) (.ki .i64 0)) (.ki .i64 0)) (.ki .i64 0)) (.ki .i64 0)) (.done (.tup [(.agg [(.str []), (.at (.int .i64 0)), (.at (.int .i64 0)), (.at (.int .i64 0)), (.at (.int .i64 16)), (.sym (.v (.int .i64) 13))]), (.agg [])])) (.fork (.cmp 0 (.fn (.int .i64) 170 (.fn .str 0 (.fn .str 50 (.fn .str 0 (.sub (.v .str 0) (.v (.int .i64) 13) (.len (.v .str 0))) (.ki .i64 0)) (.ki .i64 0)) (.ki .i64 0)) (.ki .i64 0)) (.ki .i64 2)) (.fork (.cmp 3 (.len (.v .str 12)) (.ki .i64 1000000)) (.fork (.fn .bool 200 (.fn .str 0 (.v .str 12) (.ki .i64 0)) (.ki .i64 0)) (.done (.tup [(.agg [(.str []), (.at (.int .i64 0)), (.at (.int .i64 0)), (.at (.int .i64 0)), (.at (.int .i64 26)), (.sym (.v (.int .i64) 11))]), (.agg [])])) (.done (.tup [(.agg [(.sym (.v .str 10)), (.sym (.fn (.int .i64) 170 (.fn .str 0 (.fn .str 50 (.fn .str 0 (.sub (.v .str 0) (.v (.int .i64) 13) (.len (.v .str 0))) (.ki .i64 0)) (.ki .i64 0)) (.ki .i64 0)) (.ki .i64 0))), (.at (.int .i64 1000000)), (.at (.int .i64 0)), (.at (.int .i64 0)), (.at (.int .i64 0))]), (.agg [(.sym (.v .bool 14)), (.sym (.v (.int .u64) 15)), (.sym (.v (.int .i64) 16))])]))) .dead) (.done (.tup [(.agg [(.sym (.v .str 10)), (.sym (.fn (.int .i64) 170 (.fn .str 0 (.fn .str 50 (.fn .str 0 (.sub (.v .str 0) (.v (.int .i64) 13) (.len (.v .str 0))) (.ki .i64 0)) (.ki .i64 0)) (.ki .i64 0)) (.ki .i64 0))), (.at (.int .i64 1000000)), (.at (.int .i64 0)), (.at (.int .i64 0)), (.at (.int .i64 0))]), (.agg [(.sym (.v .bool 14)), (.sym (.v (.int .u64) 15)), (.sym (.v (.int .i64) 16))])])))) .dead)) .dead) .dead) .dead)
def g60t3 : LTree := (.fork (.cmp 3 (.ki .i64 0) (.v (.int .i64) 20)) (.fork (.cmp 3 (.v (.int .i64) 20) (.len (.v .str 0))) (.fork (.cmp 3 (.len (.sub (.v .str 0) (.v (.int .i64) 20) (.len (.v .str 0)))) (.ki .i64 1000000)) (.fork (.fn .bool 220 (.fn .str 0 (.sub (.v .str 0) (.v (.int .i64) 20) (.len (.v .str 0))) (.ki .i64 0)) (.ki .i64 0)) (.fork (.cmp 3 (.ki .i64 0) (.ar 0 .i64 (.v (.int .i64) 20) (.ki .i64 1))) (.fork (.cmp 3 (.ar 0 .i64 (.v (.int .i64) 20) (.ki .i64 1)) (.len (.v .str 0))) (.fork (.cmp 3 (.len (.sub (.v .str 0) (.ar 0 .i64 (.v (.int .i64) 20) (.ki .i64 1)) (.len (.v .str 0)))) (.ki .i64 1000000)) (.fork (.fn .bool 52 (.fn .str 0 (.sub (.v .str 0) (.ar 0 .i64 (.v (.int .i64) 20) (.ki .i64 1)) (.len (.v .str 0))) (.ki .i64 0)) (.ki .i64 0)) (.fork (.cmp 3 (.len (.fn .str 50 (.fn .str 0 (.sub (.v .str 0) (.ar 0 .i64 (.v (.int .i64) 20) (.ki .i64 1)) (.len (.v .str 0))) (.ki .i64 0)) (.ki .i64 0))) (.ki .i64 1000000)) (.fork (.cmp 0 (.fn (.int .i64) 131 (.fn .str 0 (.fn .str 50 (.fn .str 0 (.sub (.v .str 0) (.ar 0 .i64 (.v (.int .i64) 20) (.ki .i64 1)) (.len (.v .str 0))) (.ki .i64 0)) (.ki .i64 0)) (.ki .i64 0)) (.ki .i64 0)) (.ki .i64 0)) (.fork (.cmp 0 (.fn (.int .i64) 132 (.fn .str 0 (.fn .str 50 (.fn .str 0 (.sub (.v .str 0) (.ar 0 .i64 (.v (.int .i64) 20) (.ki .i64 1)) (.len (.v .str 0))) (.ki .i64 0)) (.ki .i64 0)) (.ki .i64 0)) (.ki .i64 0)) (.ki .i64 0)) (.fork (.cmp 0 (.v (.int .i64) 19) (.ki .i64 2)) (.fork (.cmp 1 (.fn (.int .i64) 130 (.fn .str 0 (.fn .str 50 (.fn .str 0 (.sub (.v .str 0) (.ar 0 .i64 (.v (.int .i64) 20) (.ki .i64 1)) (.len (.v .str 0))) (.ki .i64 0)) (.ki .i64 0)) (.ki .i64 0)) (.ki .i64 0)) (.ki .i64 1000000)) (.done (.tup [(.agg [(.str []), (.at (.int .i64 0)), (.at (.int .i64 0)), (.at (.int .i64 0)), (.at (.int .i64 18)), (.sym (.ar 0 .i64 (.v (.int .i64) 20) (.ki .i64 1)))]), (.agg [])])) (.done (.tup [(.agg [(.str []), (.at (.int .i64 0)), (.at (.int .i64 0)), (.at (.int .i64 0)), (.at (.int .i64 11)), (.sym (.ar 1 .i64 (.ar 0 .i64 (.ar 0 .i64 (.ar 0 .i64 (.v (.int .i64) 20) (.ki .i64 1)) (.len (.fn .str 50 (.fn .str 0 (.sub (.v .str 0) (.ar 0 .i64 (.v (.int .i64) 20) (.ki .i64 1)) (.len (.v .str 0))) (.ki .i64 0)) (.ki .i64 0)))) (.ki .i64 1)) (.ki .i64 1)))]), (.agg [])]))) (.done (.tup [(.agg [(.str []), (.at (.int .i64 0)), (.at (.int .i64 0)), (.at (.int .i64 0)), (.at (.int .i64 11)), (.sym (.ar 1 .i64 (.ar 0 .i64 (.ar 0 .i64 (.ar 0 .i64 (.v (.int .i64) 20) (.ki .i64 1)) (.len (.fn .str 50 (.fn .str 0 (.sub (.v .str 0) (.ar 0 .i64 (.v (.int .i64) 20) (.ki .i64 1)) (.len (.v .str 0))) (.ki .i64 0)) (.ki .i64 0)))) (.ki .i64 1)) (.ki .i64 1)))]), (.agg [])]))) (.done (.tup [(.agg [(.str []), (.at (.int .i64 0)), (.at (.int .i64 0)), (.at (.int .i64 0)), (.at (.int .i64 18)), (.sym (.ar 0 .i64 (.v (.int .i64) 20) (.ki .i64 1)))]), (.agg [])]))) (.done (.tup [(.agg [(.str []), (.at (.int .i64 0)), (.at (.int .i64 0)), (.at (.int .i64 0)), (.at (.int .i64 18)), (.sym (.ar 0 .i64 (.v (.int .i64) 20) (.ki .i64 1)))]), (.agg [])]))) .dead) (.fork (.cmp 3 (.len (.fn .str 50 (.fn .str 0 (.sub (.v .str 0) (.ar 0 .i64 (.v (.int .i64) 20) (.ki .i64 1)) (.len (.v .str 0))) (.ki .i64 0)) (.ki .i64 0))) (.ki .i64 1000000)) (.fork (.cmp 0 (.fn (.int .i64) 131 (.fn .str 0 (.fn .str 50 (.fn .str 0 (.sub (.v .str 0) (.ar 0 .i64 (.v (.int .i64) 20) (.ki .i64 1)) (.len (.v .str 0))) (.ki .i64 0)) (.ki .i64 0)) (.ki .i64 0)) (.ki .i64 0)) (.ki .i64 0)) (.fork (.cmp 0 (.fn (.int .i64) 132 (.fn .str 0 (.fn .str 50 (.fn .str 0 (.sub (.v .str 0) (.ar 0 .i64 (.v (.int .i64) 20) (.ki .i64 1)) (.len (.v .str 0))) (.ki .i64 0)) (.ki .i64 0)) (.ki .i64 0)) (.ki .i64 0)) (.ki .i64 0)) (.fork (.cmp 0 (.v (.int .i64) 19) (.ki .i64 2)) (.fork (.cmp 1 (.fn (.int .i64) 130 (.fn .str 0 (.fn .str 50 (.fn .str 0 (.sub (.v .str 0) (.ar 0 .i64 (.v (.int .i64) 20) (.ki .i64 1)) (.len (.v .str 0))) (.ki .i64 0)) (.ki .i64 0)) (.ki .i64 0)) (.ki .i64 0)) (.ki .i64 1000000)) (.done (.tup [(.agg [(.str []), (.at (.int .i64 0)), (.at (.int .i64 0)), (.at (.int .i64 0)), (.at (.int .i64 18)), (.sym (.ar 0 .i64 (.v (.int .i64) 20) (.ki .i64 1)))]), (.agg [])])) (.done (.tup [(.agg [(.sym (.v .str 10)), (.sym (.v (.int .i64) 19)), (.sym (.fn (.int .i64) 130 (.fn .str 0 (.fn .str 50 (.fn .str 0 (.sub (.v .str 0) (.ar 0 .i64 (.v (.int .i64) 20) (.ki .i64 1)) (.len (.v .str 0))) (.ki .i64 0)) (.ki .i64 0)) (.ki .i64 0)) (.ki .i64 0))), (.at (.int .i64 0)), (.at (.int .i64 0)), (.at (.int .i64 0))]), (.agg [(.sym (.v .bool 14)), (.sym (.v (.int .u64) 15)), (.sym (.v (.int .i64) 16))])]))) (.done (.tup [(.agg [(.sym (.v .str 10)), (.sym (.v (.int .i64) 19)), (.sym (.fn (.int .i64) 130 (.fn .str 0 (.fn .str 50 (.fn .str 0 (.sub (.v .str 0) (.ar 0 .i64 (.v (.int .i64) 20) (.ki .i64 1)) (.len (.v .str 0))) (.ki .i64 0)) (.ki .i64 0)) (.ki .i64 0)) (.ki .i64 0))), (.at (.int .i64 0)), (.at (.int .i64 0)), (.at (.int .i64 0))]), (.agg [(.sym (.v .bool 14)), (.sym (.v (.int .u64) 15)), (.sym (.v (.int .i64) 16))])]))) (.done (.tup [(.agg [(.str []), (.at (.int .i64 0)), (.at (.int .i64 0)), (.at (.int .i64 0)), (.at (.int .i64 18)), (.sym (.ar 0 .i64 (.v (.int .i64) 20) (.ki .i64 1)))]), (.agg [])]))) (.done (.tup [(.agg [(.str []), (.at (.int .i64 0)), (.at (.int .i64 0)), (.at (.int .i64 0)), (.at (.int .i64 18)), (.sym (.ar 0 .i64 (.v (.int .i64) 20) (.ki .i64 1)))]), (.agg [])]))) .dead)) .dead) .dead) .dead) (.done (.tup [(.agg [(.str []), (.at (.int .i64 0)), (.at (.int .i64 0)), (.at (.int .i64 0)), (.at (.int .i64 11)), (.sym (.v (.int .i64) 20))]), (.agg [])]))) .dead) .dead) .dead)
noncomputable def g60 : Nat → Node | 1 => ⟨g60c1, [[5, 10, 11, 2, 3, 9, 1, 7, 6, 4]], g60t1⟩ | 2 => ⟨g60c2, [[5, 14, 15, 2, 3, 10, 11, 7, 12, 6, 9, 1, 4, 13]], g60t2⟩ | 3 => ⟨g60c3, [[1, 4, 111, 2, 3, 5, 6, 13, 16]], g60t3⟩ | _ => ⟨g60c0, [], g60t0⟩
set_option maxRecDepth 1000000 in
theorem g60ok : gotFM (orcL [4, 5, 9, 12, 13, 17, 20, 22] false) 60 [(.sym (.v .str 0))] g60 4 = wantF g60 4 := by kernel_rfl
theorem g60in : (g60 0).c = entryC 60 [(.sym (.v .str 0))] := rfl

/-- what is left of the line, from a place on -/
def rest (l : List UInt8) (n : Int) : Val := .s ((l.drop n.toNat).take ((l.length : Int).toNat - n.toNat))
theorem rest_len (l : List UInt8) {n : Int} (h0 : 0 ≤ n) (h : n ≤ l.length) : ((rest l n).toS.length : Int) = l.length - n := by
 show (((l.drop n.toNat).take ((l.length : Int).toNat - n.toNat)).length : Int) = _
 rw [List.length_take, List.length_drop]
 omega
theorem rest_le (l : List UInt8) (n : Int) : (rest l n).toS.length ≤ l.length := by
 show ((l.drop n.toNat).take ((l.length : Int).toNat - n.toNat)).length ≤ _
 rw [List.length_take, List.length_drop]
 omega
theorem ev_rest {ι : Asn} {n : Nat} {t : Tok} : (Tok.sub (.v .str n) t (.len (.v .str n))).eval ι = rest (ι.v .str n).toS (t.eval ι).toI := rfl

def invSt (_ : List Val) : Nat → Asn → Prop | 0, ι => ι.fn = FF ∧ (ι.v .str 0).toS.length ≤ 1000000 | 1, ι => ι.fn = FF ∧ (ι.v .str 0).toS.length ≤ 1000000 ∧ 0 ≤ (ι.v (.int .i64) 11).toI ∧ (ι.v (.int .i64) 11).toI ≤ (ι.v .str 0).toS.length | 2, ι => ι.fn = FF ∧ (ι.v .str 0).toS.length ≤ 1000000 ∧ (ι.v .str 12).toS.length ≤ 1000000 ∧ 0 ≤ (ι.v (.int .i64) 13).toI ∧ (ι.v (.int .i64) 13).toI ≤ (ι.v .str 0).toS.length | 3, ι => ι.fn = FF ∧ (ι.v .str 0).toS.length ≤ 1000000 ∧ 0 ≤ (ι.v (.int .i64) 20).toI ∧ (ι.v (.int .i64) 20).toI ≤ (ι.v .str 0).toS.length | _, _ => False
theorem invSt_lt (vs : List Val) (i : Nat) (ι : Asn) (h : invSt vs i ι) : i < 4 := by
 match i, h with
 | 0, _ => omega
 | 1, _ => omega
 | 2, _ => omega
 | 3, _ => omega

theorem statsd_round (vs : List Val) : ∀ i ι, invSt vs i ι → Round (invSt vs) (fun i _ => 4 - i) (fun _ => True) ι (4 - i) (leafOf ι (g60 i).tr)
 | 0, ι, ⟨hf, h1⟩ => by
  have e := cut4 (rest (ι.v .str 0).toS 0) (Nat.le_trans (rest_le _ _) h1)
  have r := rest_len (ι.v .str 0).toS (n := 0) (by omega) (by omega)
  show Round _ _ _ _ _ (leafOf ι g60t0)
  unfold g60t0
  repeat' refine round_fork (fun _ => ?_) (fun _ => ?_)
  all_goals try exact trivial
  all_goals try refine ⟨⟨hf, h1, ?_, ?_⟩, ?_⟩
  all_goals simp (disch := omega) only [ev_rest, g60s0_, g60s1_, g60s2_, g60s3_, hf, FF_0, FF_40, FF_42, unpack_p, unpack_i, ev_v, ev_fn, ev_ki, ev_ks, toI_i, toS_s, toB_b, ev_len, ev_add, ev_sub, ev_mul, ev_quo, ev_rem, ev_cv, ev_cat, beq_t, beq_f, bne_t, bne_f, blt_t, blt_f, ble_t, ble_f, bgt_t, bgt_f, bge_t, bge_f, bseq_t, bseq_f, bfits_t, bfits_f, wr64, List.length_take, List.length_drop, List.length_append] at *
  all_goals (try have f1 := e.2 (by assumption))
  all_goals omega
 | 1, ι, ⟨hf, h1, h2, h3⟩ => by
  have e := cut5 (rest (ι.v .str 0).toS (ι.v (.int .i64) 11).toI) (Nat.le_trans (rest_le _ _) h1)
  have r := rest_len (ι.v .str 0).toS h2 h3
  show Round _ _ _ _ _ (leafOf ι g60t1)
  unfold g60t1
  repeat' refine round_fork (fun _ => ?_) (fun _ => ?_)
  all_goals try exact trivial
  all_goals try refine ⟨⟨hf, h1, ?_, ?_, ?_⟩, ?_⟩
  all_goals simp (disch := omega) only [ev_rest, g60s0_, g60s1_, g60s2_, g60s3_, hf, FF_0, FF_50, FF_52, unpack_p, unpack_i, ev_v, ev_fn, ev_ki, ev_ks, toI_i, toS_s, toB_b, ev_len, ev_add, ev_sub, ev_mul, ev_quo, ev_rem, ev_cv, ev_cat, beq_t, beq_f, bne_t, bne_f, blt_t, blt_f, ble_t, ble_f, bgt_t, bgt_f, bge_t, bge_f, bseq_t, bseq_f, bfits_t, bfits_f, wr64, List.length_take, List.length_drop, List.length_append] at *
  all_goals (try have f1 := e.2 (by assumption))
  all_goals omega
 | 2, ι, ⟨hf, h1, h4, h2, h3⟩ => by
  have e := cut5 (rest (ι.v .str 0).toS (ι.v (.int .i64) 13).toI) (Nat.le_trans (rest_le _ _) h1)
  have r := rest_len (ι.v .str 0).toS h2 h3
  show Round _ _ _ _ _ (leafOf ι g60t2)
  unfold g60t2
  repeat' refine round_fork (fun _ => ?_) (fun _ => ?_)
  all_goals try exact trivial
  all_goals try refine ⟨⟨hf, h1, ?_, ?_⟩, ?_⟩
  all_goals simp (disch := omega) only [ev_rest, g60s0_, g60s1_, g60s2_, g60s3_, hf, FF_0, FF_50, FF_52, unpack_p, unpack_i, ev_v, ev_fn, ev_ki, ev_ks, toI_i, toS_s, toB_b, ev_len, ev_add, ev_sub, ev_mul, ev_quo, ev_rem, ev_cv, ev_cat, beq_t, beq_f, bne_t, bne_f, blt_t, blt_f, ble_t, ble_f, bgt_t, bgt_f, bge_t, bge_f, bseq_t, bseq_f, bfits_t, bfits_f, wr64, List.length_take, List.length_drop, List.length_append] at *
  all_goals (try have f1 := e.2 (by assumption))
  all_goals omega
 | 3, ι, ⟨hf, h1, h2, h3⟩ => by
  have e4 := has22 (rest (ι.v .str 0).toS (ι.v (.int .i64) 20).toI) (Nat.le_trans (rest_le _ _) h1)
  have r4 := rest_len (ι.v .str 0).toS h2 h3
  have e := cut5 (rest (ι.v .str 0).toS ((ι.v (.int .i64) 20).toI + 1)) (Nat.le_trans (rest_le _ _) h1)
  have r := fun h => rest_len (ι.v .str 0).toS (n := (ι.v (.int .i64) 20).toI + 1) (by omega) h
  have u := rest_le (ι.v .str 0).toS ((ι.v (.int .i64) 20).toI + 1)
  show Round _ _ _ _ _ (leafOf ι g60t3)
  unfold g60t3
  repeat' refine round_fork (fun _ => ?_) (fun _ => ?_)
  all_goals try exact trivial
  all_goals simp (disch := omega) only [ev_rest, hf, FF_0, FF_50, FF_52, FF_220, unpack_p, unpack_i, ev_v, ev_fn, ev_ki, ev_ks, toI_i, toS_s, toB_b, ev_len, ev_add, ev_sub, ev_mul, ev_quo, ev_rem, ev_cv, ev_cat, beq_t, beq_f, bne_t, bne_f, blt_t, blt_f, ble_t, ble_f, bgt_t, bgt_f, bge_t, bge_f, bseq_t, bseq_f, bfits_t, bfits_f, wr64, List.length_take, List.length_drop, List.length_append] at *
  all_goals (try have f4 := e4 (by assumption))
  all_goals (try have f1 := e.2 (by assumption))
  all_goals (try have g := r (by omega))
  all_goals omega

theorem statsd_reads : Reads 60 := fun l hl => by
 obtain ⟨out, _, h⟩ := fnM_of_graph (orcL_is statsd_oracles) g60ok g60in rfl (Inv := invSt []) (μ := fun i _ => 4 - i) (Q := fun _ => True) (invSt_lt _) (statsd_round []) (ι := asn [.s l]) rfl ⟨rfl, hl⟩
 exact ⟨out, h⟩
end Go.Eng
namespace Go.Eng
open Go Go.Proofs

theorem FF_80 (a b : Val) : FF 80 a b = (tab sp 8 (unpack a)).getD 0 (.i 0) := FF_at (id := 8) (j := 0) (by omega) (by omega) a b
theorem FF_82 (a b : Val) : FF 82 a b = (tab sp 8 (unpack a)).getD 2 (.i 0) := FF_at (id := 8) (j := 2) (by omega) (by omega) a b
theorem cut8 (v : Val) (h : v.toS.length ≤ 1000000) : ((tab sp 8 [v]).getD 0 (.i 0)).toS.length ≤ v.toS.length ∧ (((tab sp 8 [v]).getD 2 (.i 0)).toB = true → ((tab sp 8 [v]).getD 0 (.i 0)).toS.length + 1 ≤ v.toS.length) := by
 have h1 : (((tab sp 8 [v]).getD 2 (.i 0)).toB = true → ((tab sp 8 [v]).getD 0 (.i 0)).toS.length + 1 + ((tab sp 8 [v]).getD 1 (.i 0)).toS.length = v.toS.length) ∧
  (((tab sp 8 [v]).getD 2 (.i 0)).toB = false → ((tab sp 8 [v]).getD 0 (.i 0)).toS.length = v.toS.length ∧ ((tab sp 8 [v]).getD 1 (.i 0)).toS.length = 0) := post_of told8 (vs := [v]) rfl ⟨h, trivial⟩
 cases hb : ((tab sp 8 [v]).getD 2 (.i 0)).toB with
 | true => have := h1.1 hb; exact ⟨by omega, fun _ => by omega⟩
 | false => have := h1.2 hb; exact ⟨by omega, fun h => by cases h⟩
theorem graphite_oracles : ∀ i ∈ [8, 9, 12, 15], 1 ≤ i ∧ Told (sp i) := fun i hi => by
 simp only [List.mem_cons, List.not_mem_nil, or_false] at hi
 rcases hi with rfl | rfl | rfl | rfl
 ·exact ⟨by omega, told8⟩
 ·exact ⟨by omega, told9⟩
 ·exact ⟨by omega, told12⟩
 ·exact ⟨by omega, told15⟩

noncomputable def g64c0 : ACfg := entryC 64 [(.sym (.v .str 0))]
noncomputable def yF_0 : Nat × AV := (0, (.ptr 10 0))
noncomputable def yF_1 : AV := .at (.int .i64 0)
noncomputable def yF_2 : AV := .sym (.v .str 10)
noncomputable def yF_3 : AV := .at (.bool true)
noncomputable def yF_4 : AV := .agg [yF_1, yF_2, yF_3]
noncomputable def yF_5 : List AItem := [(.code (cd 119 [0])), (.code (cd 119 [1]))]
noncomputable def yF_6 : Nat × AV := (2, (.ptr 8 0))
noncomputable def yF_7 : Nat × AV := (3, (.ptr 9 0))
noncomputable def yF_8 : Nat × AV := (4, (.ptr 10 0))
noncomputable def yF_9 : Nat × AV := (5, (.ptr 11 0))
noncomputable def yF_10 : Nat × AV := (0, (.yield 14))
noncomputable def yF_11 : Nat × AV := (1, (.ptr 12 0))
noncomputable def yF_12 : Nat × AV := (18, (.yield 14))
noncomputable def yF_13 : AFrame := ⟨64, (tu 46 [(0, (.sym (.v .str 0))), yF_6, yF_7, yF_8, yF_9, (6, uu), (7, uu), (13, uu), (14, uu)]), [(.inRange 14), (.inBlock 0), (.code (cd 64 [1, 0, 1, 1, 1, 1])), (.inScope (cd 64 [1, 0]))], [(.coll 13)], false, false, none⟩
noncomputable def yF_14 : AObj := .cells 197 [(.iface 389 .unk)] false false
noncomputable def yF_15 : AV := .at (.slice none 0 0)
noncomputable def yF_16 : Nat × AObj := (8, (.cells 42 [(.str []), yF_1, yF_15, yF_1, yF_15, yF_1] true false))
noncomputable def yF_17 : Nat × AObj := (9, (.cells 127 [yF_1, yF_1] true false))
noncomputable def yF_18 : AV := .at (.int .i64 2)
noncomputable def yF_19 : AV := .at (.int .i64 1000000)
noncomputable def yF_20 : List AV := [(.str []), yF_18, yF_15, yF_19, yF_15, yF_1]
noncomputable def yF_21 : Nat × AObj := (11, (.cells 127 [yF_1, yF_1] true false))
noncomputable def yF_22 : Nat × AObj := (12, (.cells 9 [(.sym (.v .str 0))] true false))
noncomputable def yF_23 : AObj := .cells 214 [yF_1, yF_2, yF_3] true false
noncomputable def yF_24 : AV := .at (.bool false)
noncomputable def yF_25 : AV := .agg [yF_1, (.sym (.v .str 11)), yF_24]
noncomputable def yF_26 : AV := .at (.int .i64 1)
noncomputable def yF_27 : List AV := [(.sym (.v (.int .i64) 12)), (.sym (.v .str 13)), yF_3]
noncomputable def yF_28 : Nat × AObj := (10, (.cells 42 [yF_2, yF_18, yF_15, yF_19, yF_15, yF_1] true false))
noncomputable def yF_29 : Nat × AObj := (17, (.cells 214 yF_27 true false))
noncomputable def yF_30 : List AV := [(.sym (.v (.int .i64) 14)), (.sym (.v .str 15)), yF_24]
noncomputable def yF_31 : List AV := [(.sym (.v (.int .i64) 16)), (.sym (.v .str 17)), yF_3]
noncomputable def yF_32 : Nat × AObj := (10, (.cells 42 [yF_2, yF_18, (.sl 21 0 1 1 3 true), yF_19, yF_15, yF_1] true false))
noncomputable def yF_33 : AObj := .cells 36 [(.sym (.v .bool 18)), (.sym (.v (.int .u64) 19)), (.sym (.v (.int .i64) 20))] true false
noncomputable def yF_34 : List AV := [(.sym (.v (.int .i64) 23)), (.sym (.v .str 24)), yF_24]
noncomputable def yF_35 : AObj := .cells 36 [(.sym (.v .bool 25)), (.sym (.v (.int .u64) 26)), (.sym (.v (.int .i64) 27))] true false
def wF_0 : Tok := .ki .i64 0
def wF_1 : Tok := .fn .str 80 (.fn .str 0 (.sub (.v .str 0) wF_0 (.len (.v .str 0))) wF_0) wF_0
def wF_2 : Tok := .ar 0 .i64 wF_0 (.ar 0 .i64 (.len (.v .str 10)) (.ki .i64 1))
def wF_3 : Tok := .fn .str 80 (.fn .str 0 (.sub (.v .str 0) wF_2 (.len (.v .str 0))) wF_0) wF_0
def wF_4 : Tok := .fn .str 0 (.v .str 13) wF_0
def wF_5 : Tok := .ar 0 .i64 (.v (.int .i64) 12) (.ar 0 .i64 (.len (.v .str 13)) (.ki .i64 1))
def wF_6 : Tok := .fn .str 80 (.fn .str 0 (.sub (.v .str 0) wF_5 (.len (.v .str 0))) wF_0) wF_0
noncomputable def g64c1 : ACfg := ⟨⟨119, (tu 53 [yF_0, (1, yF_1), (2, yF_4), (5, uu), (6, uu)]), yF_5, [], false, false, none⟩, [⟨64, (tu 46 [yF_6, yF_7, yF_8, yF_9, (6, yF_1), (7, (.ptr 15 0)), (8, uu), (15, yF_1), (16, yF_4), (17, uu)]), [(.ops ((os 64 [1, 0, 1, 1, 1, 0, 1, 0, 1, 0, 0]).toList.drop 2) (os 64 [1, 0, 1, 1, 1, 0, 1, 0, 1, 0, 0])), (.code (cd 64 [1, 0, 1, 1, 1, 0, 1, 0, 1, 0, 1])), (.inBlock 1)], [], false, false, some 14⟩, ⟨176, (tu 31 [yF_10, yF_11, (3, yF_1), (4, yF_1), (5, yF_3), (6, yF_2), yF_12, (19, yF_1), (23, yF_4), (24, uu), (25, uu)]), [(.ops ((os 176 [1, 1, 0, 0, 1, 0, 0, 1, 1, 0, 0]).toList.drop 6) (os 176 [1, 1, 0, 0, 1, 0, 0, 1, 1, 0, 0])), (.code (cd 176 [1, 1, 0, 0, 1, 0, 0, 1, 1, 0, 1])), (.code (cd 176 [1, 1, 0, 0, 1, 0, 0, 1, 1, 1])), (.inBlock 1), (.code (cd 176 [1, 1, 0, 0, 1, 1])), (.inLoop (cd 176 [1, 1, 0, 0])), (.inBlock 0)], [], false, false, none⟩, yF_13], ⟨hT [(6, yF_14), (7, yF_14), yF_16, yF_17, (10, (.cells 42 yF_20 true false)), yF_21, yF_22, (13, (.dfr (some []))), (14, (.loop .busy none 64 (tm 46 [(0, (.sym (.v .str 0))), yF_6, yF_7, yF_8, yF_9, (10, (.agg yF_20)), (11, (.sym (.v .str 0))), (12, (.fn (.func 176) [] [(.ptr 12 0)]))]) (ps 64 [1, 0, 1, 1, 1, 0, 1, 0]) (cd 64 [1, 0, 1, 1, 1, 0, 1, 0, 0]) (cd 64 [1, 0, 1, 1, 1, 0, 1, 0, 1]) 13)), (15, yF_23)], 16⟩⟩
noncomputable def g64c2 : ACfg := ⟨⟨119, (tu 53 [yF_0, (1, yF_1), (2, yF_25), (5, uu), (6, uu)]), yF_5, [], false, false, none⟩, [⟨64, (tu 46 [yF_6, yF_7, yF_8, yF_9, (6, yF_1), (7, (.ptr 15 0)), (8, uu), (15, yF_1), (16, yF_25), (17, uu)]), [(.ops ((os 64 [1, 0, 1, 1, 1, 0, 1, 0, 1, 0, 0]).toList.drop 2) (os 64 [1, 0, 1, 1, 1, 0, 1, 0, 1, 0, 0])), (.code (cd 64 [1, 0, 1, 1, 1, 0, 1, 0, 1, 0, 1])), (.inBlock 1)], [], false, false, some 14⟩, ⟨176, (tu 31 [yF_10, yF_11, (3, yF_1), (4, yF_1), (5, yF_24), (6, (.sym (.v .str 11))), yF_12, (19, yF_1), (23, yF_25), (24, uu), (25, uu)]), [(.ops ((os 176 [1, 1, 0, 0, 1, 0, 0, 1, 1, 0, 0]).toList.drop 6) (os 176 [1, 1, 0, 0, 1, 0, 0, 1, 1, 0, 0])), (.code (cd 176 [1, 1, 0, 0, 1, 0, 0, 1, 1, 0, 1])), (.code (cd 176 [1, 1, 0, 0, 1, 0, 0, 1, 1, 1])), (.inBlock 1), (.code (cd 176 [1, 1, 0, 0, 1, 1])), (.inLoop (cd 176 [1, 1, 0, 0])), (.inBlock 0)], [], false, false, none⟩, yF_13], ⟨hT [(6, yF_14), (7, yF_14), yF_16, yF_17, (10, (.cells 42 yF_20 true false)), yF_21, yF_22, (13, (.dfr (some []))), (14, (.loop .busy none 64 (tm 46 [(0, (.sym (.v .str 0))), yF_6, yF_7, yF_8, yF_9, (10, (.agg yF_20)), (11, (.sym (.v .str 0))), (12, (.fn (.func 176) [] [(.ptr 12 0)]))]) (ps 64 [1, 0, 1, 1, 1, 0, 1, 0]) (cd 64 [1, 0, 1, 1, 1, 0, 1, 0, 0]) (cd 64 [1, 0, 1, 1, 1, 0, 1, 0, 1]) 13)), (15, (.cells 214 [yF_1, (.sym (.v .str 11)), yF_24] true false))], 16⟩⟩
noncomputable def g64c3 : ACfg := ⟨⟨119, (tu 53 [yF_0, (1, yF_26), (2, (.agg yF_27)), (5, uu), (6, uu)]), yF_5, [], false, false, none⟩, [⟨64, (tu 46 [yF_6, yF_7, yF_8, yF_9, (6, yF_26), (7, (.ptr 17 0)), (8, uu), (15, yF_26), (16, (.agg yF_27)), (17, uu)]), [(.ops ((os 64 [1, 0, 1, 1, 1, 0, 1, 0, 1, 0, 0]).toList.drop 2) (os 64 [1, 0, 1, 1, 1, 0, 1, 0, 1, 0, 0])), (.code (cd 64 [1, 0, 1, 1, 1, 0, 1, 0, 1, 0, 1])), (.inBlock 1)], [], false, false, some 14⟩, ⟨176, (tu 31 [yF_10, yF_11, (3, (.sym (.v (.int .i64) 12))), (4, yF_26), (5, yF_3), (6, (.sym (.v .str 13))), yF_12, (19, yF_26), (23, (.agg yF_27)), (24, yF_3), (25, yF_24)]), [(.ops ((os 176 [1, 1, 0, 0, 1, 0, 0, 1, 1, 0, 0]).toList.drop 6) (os 176 [1, 1, 0, 0, 1, 0, 0, 1, 1, 0, 0])), (.code (cd 176 [1, 1, 0, 0, 1, 0, 0, 1, 1, 0, 1])), (.code (cd 176 [1, 1, 0, 0, 1, 0, 0, 1, 1, 1])), (.inBlock 1), (.code (cd 176 [1, 1, 0, 0, 1, 1])), (.inLoop (cd 176 [1, 1, 0, 0])), (.inBlock 0)], [], false, false, none⟩, yF_13], ⟨hT [(6, yF_14), (7, yF_14), yF_16, yF_17, yF_28, yF_21, yF_22, (13, (.dfr (some []))), (14, (.loop .busy none 64 (tm 46 [(0, (.sym (.v .str 0))), yF_6, yF_7, yF_8, yF_9, (10, (.agg yF_20)), (11, (.sym (.v .str 0))), (12, (.fn (.func 176) [] [(.ptr 12 0)]))]) (ps 64 [1, 0, 1, 1, 1, 0, 1, 0]) (cd 64 [1, 0, 1, 1, 1, 0, 1, 0, 0]) (cd 64 [1, 0, 1, 1, 1, 0, 1, 0, 1]) 13)), (15, yF_23), (16, yF_23), yF_29], 18⟩⟩
noncomputable def g64c4 : ACfg := ⟨⟨119, (tu 53 [yF_0, (1, yF_26), (2, (.agg yF_30)), (5, uu), (6, uu)]), yF_5, [], false, false, none⟩, [⟨64, (tu 46 [yF_6, yF_7, yF_8, yF_9, (6, yF_26), (7, (.ptr 17 0)), (8, uu), (15, yF_26), (16, (.agg yF_30)), (17, uu)]), [(.ops ((os 64 [1, 0, 1, 1, 1, 0, 1, 0, 1, 0, 0]).toList.drop 2) (os 64 [1, 0, 1, 1, 1, 0, 1, 0, 1, 0, 0])), (.code (cd 64 [1, 0, 1, 1, 1, 0, 1, 0, 1, 0, 1])), (.inBlock 1)], [], false, false, some 14⟩, ⟨176, (tu 31 [yF_10, yF_11, (3, (.sym (.v (.int .i64) 14))), (4, yF_26), (5, yF_24), (6, (.sym (.v .str 15))), yF_12, (19, yF_26), (23, (.agg yF_30)), (24, yF_3), (25, yF_24)]), [(.ops ((os 176 [1, 1, 0, 0, 1, 0, 0, 1, 1, 0, 0]).toList.drop 6) (os 176 [1, 1, 0, 0, 1, 0, 0, 1, 1, 0, 0])), (.code (cd 176 [1, 1, 0, 0, 1, 0, 0, 1, 1, 0, 1])), (.code (cd 176 [1, 1, 0, 0, 1, 0, 0, 1, 1, 1])), (.inBlock 1), (.code (cd 176 [1, 1, 0, 0, 1, 1])), (.inLoop (cd 176 [1, 1, 0, 0])), (.inBlock 0)], [], false, false, none⟩, yF_13], ⟨hT [(6, yF_14), (7, yF_14), yF_16, yF_17, yF_28, yF_21, yF_22, (13, (.dfr (some []))), (14, (.loop .busy none 64 (tm 46 [(0, (.sym (.v .str 0))), yF_6, yF_7, yF_8, yF_9, (10, (.agg yF_20)), (11, (.sym (.v .str 0))), (12, (.fn (.func 176) [] [(.ptr 12 0)]))]) (ps 64 [1, 0, 1, 1, 1, 0, 1, 0]) (cd 64 [1, 0, 1, 1, 1, 0, 1, 0, 0]) (cd 64 [1, 0, 1, 1, 1, 0, 1, 0, 1]) 13)), (15, yF_23), (16, yF_23), (17, (.cells 214 yF_30 true false))], 18⟩⟩
noncomputable def g64c5 : ACfg := ⟨⟨119, (tu 53 [yF_0, (1, yF_18), (2, (.agg yF_31)), (5, uu), (6, uu)]), yF_5, [], false, false, none⟩, [⟨64, (tu 46 [yF_6, yF_7, yF_8, yF_9, (6, yF_18), (7, (.ptr 22 0)), (8, uu), (15, yF_18), (16, (.agg yF_31)), (17, uu)]), [(.ops ((os 64 [1, 0, 1, 1, 1, 0, 1, 0, 1, 0, 0]).toList.drop 2) (os 64 [1, 0, 1, 1, 1, 0, 1, 0, 1, 0, 0])), (.code (cd 64 [1, 0, 1, 1, 1, 0, 1, 0, 1, 0, 1])), (.inBlock 1)], [], false, false, some 14⟩, ⟨176, (tu 31 [yF_10, yF_11, (3, (.sym (.v (.int .i64) 16))), (4, yF_18), (5, yF_3), (6, (.sym (.v .str 17))), yF_12, (19, yF_18), (23, (.agg yF_31)), (24, yF_3), (25, yF_24)]), [(.ops ((os 176 [1, 1, 0, 0, 1, 0, 0, 1, 1, 0, 0]).toList.drop 6) (os 176 [1, 1, 0, 0, 1, 0, 0, 1, 1, 0, 0])), (.code (cd 176 [1, 1, 0, 0, 1, 0, 0, 1, 1, 0, 1])), (.code (cd 176 [1, 1, 0, 0, 1, 0, 0, 1, 1, 1])), (.inBlock 1), (.code (cd 176 [1, 1, 0, 0, 1, 1])), (.inLoop (cd 176 [1, 1, 0, 0])), (.inBlock 0)], [], false, false, none⟩, yF_13], ⟨hT [(6, yF_14), (7, yF_14), yF_16, yF_17, yF_32, yF_21, yF_22, (13, (.dfr (some []))), (14, (.loop .busy none 64 (tm 46 [(0, (.sym (.v .str 0))), yF_6, yF_7, yF_8, yF_9, (10, (.agg yF_20)), (11, (.sym (.v .str 0))), (12, (.fn (.func 176) [] [(.ptr 12 0)]))]) (ps 64 [1, 0, 1, 1, 1, 0, 1, 0]) (cd 64 [1, 0, 1, 1, 1, 0, 1, 0, 0]) (cd 64 [1, 0, 1, 1, 1, 0, 1, 0, 1]) 13)), (15, yF_23), (16, yF_23), yF_29, (18, (.cells 214 yF_27 true false)), (19, yF_33), (20, (.cells 127 [(.sym (.v (.int .i64) 21)), (.sym (.v (.int .i64) 22))] true false)), (21, yF_33), (22, (.cells 214 yF_31 true false))], 23⟩⟩
noncomputable def g64c6 : ACfg := ⟨⟨119, (tu 53 [yF_0, (1, yF_18), (2, (.agg yF_34)), (5, uu), (6, uu)]), yF_5, [], false, false, none⟩, [⟨64, (tu 46 [yF_6, yF_7, yF_8, yF_9, (6, yF_18), (7, (.ptr 22 0)), (8, uu), (15, yF_18), (16, (.agg yF_34)), (17, uu)]), [(.ops ((os 64 [1, 0, 1, 1, 1, 0, 1, 0, 1, 0, 0]).toList.drop 2) (os 64 [1, 0, 1, 1, 1, 0, 1, 0, 1, 0, 0])), (.code (cd 64 [1, 0, 1, 1, 1, 0, 1, 0, 1, 0, 1])), (.inBlock 1)], [], false, false, some 14⟩, ⟨176, (tu 31 [yF_10, yF_11, (3, (.sym (.v (.int .i64) 23))), (4, yF_18), (5, yF_24), (6, (.sym (.v .str 24))), yF_12, (19, yF_18), (23, (.agg yF_34)), (24, yF_3), (25, yF_24)]), [(.ops ((os 176 [1, 1, 0, 0, 1, 0, 0, 1, 1, 0, 0]).toList.drop 6) (os 176 [1, 1, 0, 0, 1, 0, 0, 1, 1, 0, 0])), (.code (cd 176 [1, 1, 0, 0, 1, 0, 0, 1, 1, 0, 1])), (.code (cd 176 [1, 1, 0, 0, 1, 0, 0, 1, 1, 1])), (.inBlock 1), (.code (cd 176 [1, 1, 0, 0, 1, 1])), (.inLoop (cd 176 [1, 1, 0, 0])), (.inBlock 0)], [], false, false, none⟩, yF_13], ⟨hT [(6, yF_14), (7, yF_14), yF_16, yF_17, yF_32, yF_21, yF_22, (13, (.dfr (some []))), (14, (.loop .busy none 64 (tm 46 [(0, (.sym (.v .str 0))), yF_6, yF_7, yF_8, yF_9, (10, (.agg yF_20)), (11, (.sym (.v .str 0))), (12, (.fn (.func 176) [] [(.ptr 12 0)]))]) (ps 64 [1, 0, 1, 1, 1, 0, 1, 0]) (cd 64 [1, 0, 1, 1, 1, 0, 1, 0, 0]) (cd 64 [1, 0, 1, 1, 1, 0, 1, 0, 1]) 13)), (15, yF_23), (16, yF_23), yF_29, (18, (.cells 214 yF_27 true false)), (19, yF_35), (20, (.cells 127 [(.sym (.v (.int .i64) 28)), (.sym (.v (.int .i64) 29))] true false)), (21, yF_35), (22, (.cells 214 yF_34 true false))], 23⟩⟩
def g64s0 : Sub := [(10, wF_1)]
theorem g64s0_ (ι : Asn) : SV ι g64s0 .str 0 ∧ SA ι g64s0 .str 10 (.fn .str 80 (.fn .str 0 (.sub (.v .str 0) (.ki .i64 0) (.len (.v .str 0))) (.ki .i64 0)) (.ki .i64 0)) := ⟨rfl, rfl⟩
def g64s1 : Sub := [(11, wF_1)]
theorem g64s1_ (ι : Asn) : SV ι g64s1 .str 0 ∧ SA ι g64s1 .str 11 (.fn .str 80 (.fn .str 0 (.sub (.v .str 0) (.ki .i64 0) (.len (.v .str 0))) (.ki .i64 0)) (.ki .i64 0)) := ⟨rfl, rfl⟩
def g64s2 : Sub := [(13, wF_3), (12, wF_2)]
theorem g64s2_ (ι : Asn) : SV ι g64s2 .str 0 ∧ SA ι g64s2 .str 13 (.fn .str 80 (.fn .str 0 (.sub (.v .str 0) (.ar 0 .i64 (.ki .i64 0) (.ar 0 .i64 (.len (.v .str 10)) (.ki .i64 1))) (.len (.v .str 0))) (.ki .i64 0)) (.ki .i64 0)) ∧ SA ι g64s2 (.int .i64) 12 (.ar 0 .i64 (.ki .i64 0) (.ar 0 .i64 (.len (.v .str 10)) (.ki .i64 1))) := ⟨rfl, rfl, rfl⟩
def g64s3 : Sub := [(15, wF_3), (14, wF_2)]
theorem g64s3_ (ι : Asn) : SV ι g64s3 .str 0 ∧ SA ι g64s3 .str 15 (.fn .str 80 (.fn .str 0 (.sub (.v .str 0) (.ar 0 .i64 (.ki .i64 0) (.ar 0 .i64 (.len (.v .str 10)) (.ki .i64 1))) (.len (.v .str 0))) (.ki .i64 0)) (.ki .i64 0)) := ⟨rfl, rfl⟩
def g64s4 : Sub := [(22, (.fn (.int .i64) 124 wF_4 wF_0)), (21, (.fn (.int .i64) 123 wF_4 wF_0)), (20, (.fn (.int .i64) 122 wF_4 wF_0)), (19, (.fn (.int .u64) 121 wF_4 wF_0)), (18, (.fn .bool 120 wF_4 wF_0)), (17, wF_6), (16, wF_5)]
theorem g64s4_ (ι : Asn) : SV ι g64s4 .str 0 ∧ SA ι g64s4 .str 17 (.fn .str 80 (.fn .str 0 (.sub (.v .str 0) (.ar 0 .i64 (.v (.int .i64) 12) (.ar 0 .i64 (.len (.v .str 13)) (.ki .i64 1))) (.len (.v .str 0))) (.ki .i64 0)) (.ki .i64 0)) := ⟨rfl, rfl⟩
def g64s5 : Sub := [(29, (.fn (.int .i64) 124 wF_4 wF_0)), (28, (.fn (.int .i64) 123 wF_4 wF_0)), (27, (.fn (.int .i64) 122 wF_4 wF_0)), (26, (.fn (.int .u64) 121 wF_4 wF_0)), (25, (.fn .bool 120 wF_4 wF_0)), (24, wF_6), (23, wF_5)]
theorem g64s5_ (ι : Asn) : SV ι g64s5 .str 0 ∧ SA ι g64s5 .str 24 (.fn .str 80 (.fn .str 0 (.sub (.v .str 0) (.ar 0 .i64 (.v (.int .i64) 12) (.ar 0 .i64 (.len (.v .str 13)) (.ki .i64 1))) (.len (.v .str 0))) (.ki .i64 0)) (.ki .i64 0)) := ⟨rfl, rfl⟩
def g64t0 : LTree := (.fork (.cmp 3 (.ki .i64 0) (.len (.v .str 0))) (.fork (.cmp 3 (.len (.sub (.v .str 0) (.ki .i64 0) (.len (.v .str 0)))) (.ki .i64 1000000)) (.fork (.fn .bool 82 (.fn .str 0 (.sub (.v .str 0) (.ki .i64 0) (.len (.v .str 0))) (.ki .i64 0)) (.ki .i64 0)) (.to 1 g64s0 101) (.to 2 g64s1 101)) .dead) .dead)
def g64t1 : LTree := (.fork (.cmp 3 (.len (.v .str 10)) (.ki .i64 1000000)) (.fork (.cmp 0 (.fn (.int .i64) 90 (.fn .str 0 (.ki .i64 1) (.fn .str 0 (.v .str 10) (.fn .str 0 (.ki .i64 1) (.fn .str 0 (.ki .i64 200) (.ki .i64 0))))) (.ki .i64 0)) (.ki .i64 0)) (.fork (.cmp 0 (.fn (.int .i64) 91 (.fn .str 0 (.ki .i64 1) (.fn .str 0 (.v .str 10) (.fn .str 0 (.ki .i64 1) (.fn .str 0 (.ki .i64 200) (.ki .i64 0))))) (.ki .i64 0)) (.ki .i64 0)) (.fork (.cmp 3 (.ki .i64 0) (.ar 0 .i64 (.ki .i64 0) (.ar 0 .i64 (.len (.v .str 10)) (.ki .i64 1)))) (.fork (.cmp 3 (.ar 0 .i64 (.ki .i64 0) (.ar 0 .i64 (.len (.v .str 10)) (.ki .i64 1))) (.len (.v .str 0))) (.fork (.cmp 3 (.len (.sub (.v .str 0) (.ar 0 .i64 (.ki .i64 0) (.ar 0 .i64 (.len (.v .str 10)) (.ki .i64 1))) (.len (.v .str 0)))) (.ki .i64 1000000)) (.fork (.fn .bool 82 (.fn .str 0 (.sub (.v .str 0) (.ar 0 .i64 (.ki .i64 0) (.ar 0 .i64 (.len (.v .str 10)) (.ki .i64 1))) (.len (.v .str 0))) (.ki .i64 0)) (.ki .i64 0)) (.to 3 g64s2 147) (.to 4 g64s3 147)) .dead) .dead) .dead) (.done (.tup [(.agg [(.str []), (.at (.int .i64 0)), (.at (.int .i64 0)), (.at (.int .i64 0)), (.at (.int .i64 15)), (.at (.int .i64 0))]), (.agg [])]))) (.done (.tup [(.agg [(.str []), (.at (.int .i64 0)), (.at (.int .i64 0)), (.at (.int .i64 0)), (.at (.int .i64 15)), (.at (.int .i64 0))]), (.agg [])]))) .dead)
def g64t2 : LTree := (.fork (.cmp 3 (.len (.v .str 11)) (.ki .i64 1000000)) (.fork (.cmp 0 (.fn (.int .i64) 90 (.fn .str 0 (.ki .i64 1) (.fn .str 0 (.v .str 11) (.fn .str 0 (.ki .i64 1) (.fn .str 0 (.ki .i64 200) (.ki .i64 0))))) (.ki .i64 0)) (.ki .i64 0)) (.fork (.cmp 0 (.fn (.int .i64) 91 (.fn .str 0 (.ki .i64 1) (.fn .str 0 (.v .str 11) (.fn .str 0 (.ki .i64 1) (.fn .str 0 (.ki .i64 200) (.ki .i64 0))))) (.ki .i64 0)) (.ki .i64 0)) (.done (.tup [(.agg [(.str []), (.at (.int .i64 0)), (.at (.int .i64 0)), (.at (.int .i64 0)), (.at (.int .i64 11)), (.sym (.ar 0 .i64 (.ki .i64 0) (.len (.v .str 11))))]), (.agg [])])) (.done (.tup [(.agg [(.str []), (.at (.int .i64 0)), (.at (.int .i64 0)), (.at (.int .i64 0)), (.at (.int .i64 15)), (.at (.int .i64 0))]), (.agg [])]))) (.done (.tup [(.agg [(.str []), (.at (.int .i64 0)), (.at (.int .i64 0)), (.at (.int .i64 0)), (.at (.int .i64 15)), (.at (.int .i64 0))]), (.agg [])]))) .dead)
def g64t3 : LTree := (.fork (.cmp 3 (.len (.v .str 13)) (.ki .i64 1000000)) (.fork (.cmp 0 (.fn (.int .i64) 123 (.fn .str 0 (.v .str 13) (.ki .i64 0)) (.ki .i64 0)) (.ki .i64 0)) (.fork (.cmp 0 (.fn (.int .i64) 124 (.fn .str 0 (.v .str 13) (.ki .i64 0)) (.ki .i64 0)) (.ki .i64 0)) (.fork (.cmp 3 (.ki .i64 0) (.ar 0 .i64 (.v (.int .i64) 12) (.ar 0 .i64 (.len (.v .str 13)) (.ki .i64 1)))) (.fork (.cmp 3 (.ar 0 .i64 (.v (.int .i64) 12) (.ar 0 .i64 (.len (.v .str 13)) (.ki .i64 1))) (.len (.v .str 0))) (.fork (.cmp 3 (.len (.sub (.v .str 0) (.ar 0 .i64 (.v (.int .i64) 12) (.ar 0 .i64 (.len (.v .str 13)) (.ki .i64 1))) (.len (.v .str 0)))) (.ki .i64 1000000)) (.fork (.fn .bool 82 (.fn .str 0 (.sub (.v .str 0) (.ar 0 .i64 (.v (.int .i64) 12) (.ar 0 .i64 (.len (.v .str 13)) (.ki .i64 1))) (.len (.v .str 0))) (.ki .i64 0)) (.ki .i64 0)) (.to 5 g64s4 164) (.to 6 g64s5 164)) .dead) .dead) .dead) (.done (.tup [(.agg [(.str []), (.at (.int .i64 0)), (.at (.int .i64 0)), (.at (.int .i64 0)), (.at (.int .i64 17)), (.sym (.v (.int .i64) 12))]), (.agg [])]))) (.done (.tup [(.agg [(.str []), (.at (.int .i64 0)), (.at (.int .i64 0)), (.at (.int .i64 0)), (.at (.int .i64 17)), (.sym (.v (.int .i64) 12))]), (.agg [])]))) .dead)
def g64t4 : LTree := (.fork (.cmp 3 (.len (.v .str 15)) (.ki .i64 1000000)) (.fork (.cmp 0 (.fn (.int .i64) 123 (.fn .str 0 (.v .str 15) (.ki .i64 0)) (.ki .i64 0)) (.ki .i64 0)) (.fork (.cmp 0 (.fn (.int .i64) 124 (.fn .str 0 (.v .str 15) (.ki .i64 0)) (.ki .i64 0)) (.ki .i64 0)) (.done (.tup [(.agg [(.str []), (.at (.int .i64 0)), (.at (.int .i64 0)), (.at (.int .i64 0)), (.at (.int .i64 11)), (.sym (.ar 0 .i64 (.v (.int .i64) 14) (.len (.v .str 15))))]), (.agg [])])) (.done (.tup [(.agg [(.str []), (.at (.int .i64 0)), (.at (.int .i64 0)), (.at (.int .i64 0)), (.at (.int .i64 17)), (.sym (.v (.int .i64) 14))]), (.agg [])]))) (.done (.tup [(.agg [(.str []), (.at (.int .i64 0)), (.at (.int .i64 0)), (.at (.int .i64 0)), (.at (.int .i64 17)), (.sym (.v (.int .i64) 14))]), (.agg [])]))) .dead)
def g64t5 : LTree := (.fork (.cmp 3 (.len (.v .str 17)) (.ki .i64 1000000)) (.fork (.cmp 0 (.fn (.int .i64) 151 (.fn .str 0 (.v .str 17) (.ki .i64 0)) (.ki .i64 0)) (.ki .i64 0)) (.fork (.cmp 0 (.fn (.int .i64) 152 (.fn .str 0 (.v .str 17) (.ki .i64 0)) (.ki .i64 0)) (.ki .i64 0)) (.done (.tup [(.agg [(.str []), (.at (.int .i64 0)), (.at (.int .i64 0)), (.at (.int .i64 0)), (.at (.int .i64 11)), (.sym (.ar 0 .i64 (.v (.int .i64) 16) (.len (.v .str 17))))]), (.agg [])])) (.done (.tup [(.agg [(.str []), (.at (.int .i64 0)), (.at (.int .i64 0)), (.at (.int .i64 0)), (.at (.int .i64 20)), (.sym (.v (.int .i64) 16))]), (.agg [])]))) (.done (.tup [(.agg [(.str []), (.at (.int .i64 0)), (.at (.int .i64 0)), (.at (.int .i64 0)), (.at (.int .i64 20)), (.sym (.v (.int .i64) 16))]), (.agg [])]))) .dead)
def g64t6 : LTree := (.fork (.cmp 3 (.len (.v .str 24)) (.ki .i64 1000000)) (.fork (.cmp 0 (.fn (.int .i64) 151 (.fn .str 0 (.v .str 24) (.ki .i64 0)) (.ki .i64 0)) (.ki .i64 0)) (.fork (.cmp 0 (.fn (.int .i64) 152 (.fn .str 0 (.v .str 24) (.ki .i64 0)) (.ki .i64 0)) (.ki .i64 0)) (.done (.tup [(.agg [(.sym (.v .str 10)), (.at (.int .i64 2)), (.at (.int .i64 1000000)), (.sym (.fn (.int .i64) 150 (.fn .str 0 (.v .str 24) (.ki .i64 0)) (.ki .i64 0))), (.at (.int .i64 0)), (.at (.int .i64 0))]), (.agg [(.sym (.v .bool 25)), (.sym (.v (.int .u64) 26)), (.sym (.v (.int .i64) 27))])])) (.done (.tup [(.agg [(.str []), (.at (.int .i64 0)), (.at (.int .i64 0)), (.at (.int .i64 0)), (.at (.int .i64 20)), (.sym (.v (.int .i64) 23))]), (.agg [])]))) (.done (.tup [(.agg [(.str []), (.at (.int .i64 0)), (.at (.int .i64 0)), (.at (.int .i64 0)), (.at (.int .i64 20)), (.sym (.v (.int .i64) 23))]), (.agg [])]))) .dead)
noncomputable def g64 : Nat → Node | 1 => ⟨g64c1, [[2, 1, 0, 5, 6], [4, 15, 16, 17, 7, 8, 5, 6, 2, 3], [18, 19, 23, 24, 25, 3, 6, 4, 5, 1, 0], [5, 2, 3, 4, 0, 13, 14, 6, 7]], g64t1⟩ | 2 => ⟨g64c2, [[2, 1, 0, 5, 6], [4, 15, 16, 17, 7, 8, 5, 6, 2, 3], [18, 19, 23, 24, 25, 3, 6, 4, 5, 1, 0], [5, 2, 3, 4, 0, 13, 14, 6, 7]], g64t2⟩ | 3 => ⟨g64c3, [[2, 1, 0, 5, 6], [4, 15, 16, 17, 7, 8, 5, 6, 2, 3], [18, 19, 23, 24, 25, 3, 6, 4, 5, 1, 0], [5, 2, 3, 4, 0, 13, 14, 6, 7]], g64t3⟩ | 4 => ⟨g64c4, [[2, 1, 0, 5, 6], [4, 15, 16, 17, 7, 8, 5, 6, 2, 3], [18, 19, 23, 24, 25, 3, 6, 4, 5, 1, 0], [5, 2, 3, 4, 0, 13, 14, 6, 7]], g64t4⟩ | 5 => ⟨g64c5, [[2, 1, 0, 5, 6], [4, 15, 16, 17, 7, 8, 5, 6, 2, 3], [18, 19, 23, 24, 25, 3, 6, 4, 5, 1, 0], [5, 2, 3, 4, 0, 13, 14, 6, 7]], g64t5⟩ | 6 => ⟨g64c6, [[2, 1, 0, 5, 6], [4, 15, 16, 17, 7, 8, 5, 6, 2, 3], [18, 19, 23, 24, 25, 3, 6, 4, 5, 1, 0], [5, 2, 3, 4, 0, 13, 14, 6, 7]], g64t6⟩ | _ => ⟨g64c0, [], g64t0⟩
set_option maxRecDepth 1000000 in
theorem g64ok : gotFM (orcL [8, 9, 12, 15] false) 64 [(.sym (.v .str 0))] g64 7 = wantF g64 7 := by kernel_rfl
theorem g64in : (g64 0).c = entryC 64 [(.sym (.v .str 0))] := rfl

def invGr (_ : List Val) : Nat → Asn → Prop | 0, ι => ι.fn = FF ∧ (ι.v .str 0).toS.length ≤ 1000000 | 1, ι => ι.fn = FF ∧ (ι.v .str 0).toS.length ≤ 1000000 ∧ (ι.v .str 10).toS.length + 1 ≤ (ι.v .str 0).toS.length | 2, ι => ι.fn = FF ∧ (ι.v .str 0).toS.length ≤ 1000000 ∧ (ι.v .str 11).toS.length ≤ 1000000 | 3, ι => ι.fn = FF ∧ (ι.v .str 0).toS.length ≤ 1000000 ∧ 0 ≤ (ι.v (.int .i64) 12).toI ∧ (ι.v (.int .i64) 12).toI + (ι.v .str 13).toS.length + 1 ≤ (ι.v .str 0).toS.length | 4, ι => ι.fn = FF ∧ (ι.v .str 0).toS.length ≤ 1000000 ∧ (ι.v .str 15).toS.length ≤ 1000000 | 5, ι => ι.fn = FF ∧ (ι.v .str 0).toS.length ≤ 1000000 ∧ (ι.v .str 17).toS.length ≤ 1000000 | 6, ι => ι.fn = FF ∧ (ι.v .str 0).toS.length ≤ 1000000 ∧ (ι.v .str 24).toS.length ≤ 1000000 | _, _ => False
theorem invGr_lt (vs : List Val) (i : Nat) (ι : Asn) (h : invGr vs i ι) : i < 7 := by
 match i, h with
 | 0, _ => omega
 | 1, _ => omega
 | 2, _ => omega
 | 3, _ => omega
 | 4, _ => omega
 | 5, _ => omega
 | 6, _ => omega

theorem graphite_round (vs : List Val) : ∀ i ι, invGr vs i ι → Round (invGr vs) (fun i _ => 7 - i) (fun _ => True) ι (7 - i) (leafOf ι (g64 i).tr)
 | 0, ι, ⟨hf, h1⟩ => by
  have e := cut8 (rest (ι.v .str 0).toS 0) (Nat.le_trans (rest_le _ _) h1)
  have r := rest_len (ι.v .str 0).toS (n := 0) (by omega) (by omega)
  show Round _ _ _ _ _ (leafOf ι g64t0)
  unfold g64t0
  repeat' refine round_fork (fun _ => ?_) (fun _ => ?_)
  all_goals try exact trivial
  all_goals try refine ⟨⟨hf, h1, ?_⟩, ?_⟩
  all_goals simp (disch := omega) only [ev_rest, g64s0_, g64s1_, g64s2_, g64s3_, g64s4_, g64s5_, hf, FF_0, FF_80, FF_82, unpack_p, unpack_i, ev_v, ev_fn, ev_ki, ev_ks, toI_i, toS_s, toB_b, ev_len, ev_add, ev_sub, ev_mul, ev_quo, ev_rem, ev_cv, ev_cat, beq_t, beq_f, bne_t, bne_f, blt_t, blt_f, ble_t, ble_f, bgt_t, bgt_f, bge_t, bge_f, bseq_t, bseq_f, bfits_t, bfits_f, wr64, List.length_take, List.length_drop, List.length_append] at *
  all_goals (try have f1 := e.2 (by assumption))
  all_goals omega
 | 1, ι, ⟨hf, h1, h2⟩ => by
  have e := cut8 (rest (ι.v .str 0).toS ((ι.v .str 10).toS.length + 1)) (Nat.le_trans (rest_le _ _) h1)
  have r := rest_len (ι.v .str 0).toS (n := (ι.v .str 10).toS.length + 1) (by omega) (by omega)
  show Round _ _ _ _ _ (leafOf ι g64t1)
  unfold g64t1
  repeat' refine round_fork (fun _ => ?_) (fun _ => ?_)
  all_goals try exact trivial
  all_goals try refine ⟨⟨hf, h1, ?_, ?_⟩, ?_⟩
  all_goals try refine ⟨⟨hf, h1, ?_⟩, ?_⟩
  all_goals simp (disch := omega) only [ev_rest, g64s0_, g64s1_, g64s2_, g64s3_, g64s4_, g64s5_, hf, FF_0, FF_80, FF_82, unpack_p, unpack_i, Int.zero_add, ev_v, ev_fn, ev_ki, ev_ks, toI_i, toS_s, toB_b, ev_len, ev_add, ev_sub, ev_mul, ev_quo, ev_rem, ev_cv, ev_cat, beq_t, beq_f, bne_t, bne_f, blt_t, blt_f, ble_t, ble_f, bgt_t, bgt_f, bge_t, bge_f, bseq_t, bseq_f, bfits_t, bfits_f, wr64, List.length_take, List.length_drop, List.length_append] at *
  all_goals (try have f1 := e.2 (by assumption))
  all_goals omega
 | 2, ι, ⟨hf, h1, h2⟩ => by
  show Round _ _ _ _ _ (leafOf ι g64t2)
  unfold g64t2
  repeat' refine round_fork (fun _ => ?_) (fun _ => ?_)
  all_goals try exact trivial
  all_goals simp (disch := omega) only [ev_v, ev_fn, ev_ki, ev_ks, toI_i, toS_s, toB_b, ev_len, ev_add, ev_sub, ev_mul, ev_quo, ev_rem, ev_cv, ev_cat, beq_t, beq_f, bne_t, bne_f, blt_t, blt_f, ble_t, ble_f, bgt_t, bgt_f, bge_t, bge_f, bseq_t, bseq_f, bfits_t, bfits_f, wr64, List.length_take, List.length_drop, List.length_append] at *
  all_goals omega
 | 3, ι, ⟨hf, h1, h2, h3⟩ => by
  have e := cut8 (rest (ι.v .str 0).toS ((ι.v (.int .i64) 12).toI + ((ι.v .str 13).toS.length + 1))) (Nat.le_trans (rest_le _ _) h1)
  have r := rest_len (ι.v .str 0).toS (n := (ι.v (.int .i64) 12).toI + ((ι.v .str 13).toS.length + 1)) (by omega) (by omega)
  show Round _ _ _ _ _ (leafOf ι g64t3)
  unfold g64t3
  repeat' refine round_fork (fun _ => ?_) (fun _ => ?_)
  all_goals try exact trivial
  all_goals try refine ⟨⟨hf, h1, ?_⟩, ?_⟩
  all_goals simp (disch := omega) only [ev_rest, g64s0_, g64s1_, g64s2_, g64s3_, g64s4_, g64s5_, hf, FF_0, FF_80, FF_82, unpack_p, unpack_i, ev_v, ev_fn, ev_ki, ev_ks, toI_i, toS_s, toB_b, ev_len, ev_add, ev_sub, ev_mul, ev_quo, ev_rem, ev_cv, ev_cat, beq_t, beq_f, bne_t, bne_f, blt_t, blt_f, ble_t, ble_f, bgt_t, bgt_f, bge_t, bge_f, bseq_t, bseq_f, bfits_t, bfits_f, wr64, List.length_take, List.length_drop, List.length_append] at *
  all_goals (try have f1 := e.2 (by assumption))
  all_goals omega
 | 4, ι, ⟨hf, h1, h2⟩ => by
  show Round _ _ _ _ _ (leafOf ι g64t4)
  unfold g64t4
  repeat' refine round_fork (fun _ => ?_) (fun _ => ?_)
  all_goals try exact trivial
  all_goals simp (disch := omega) only [ev_v, ev_fn, ev_ki, ev_ks, toI_i, toS_s, toB_b, ev_len, ev_add, ev_sub, ev_mul, ev_quo, ev_rem, ev_cv, ev_cat, beq_t, beq_f, bne_t, bne_f, blt_t, blt_f, ble_t, ble_f, bgt_t, bgt_f, bge_t, bge_f, bseq_t, bseq_f, bfits_t, bfits_f, wr64, List.length_take, List.length_drop, List.length_append] at *
  all_goals omega
 | 5, ι, ⟨hf, h1, h2⟩ => by
  show Round _ _ _ _ _ (leafOf ι g64t5)
  unfold g64t5
  repeat' refine round_fork (fun _ => ?_) (fun _ => ?_)
  all_goals try exact trivial
  all_goals simp (disch := omega) only [ev_v, ev_fn, ev_ki, ev_ks, toI_i, toS_s, toB_b, ev_len, ev_add, ev_sub, ev_mul, ev_quo, ev_rem, ev_cv, ev_cat, beq_t, beq_f, bne_t, bne_f, blt_t, blt_f, ble_t, ble_f, bgt_t, bgt_f, bge_t, bge_f, bseq_t, bseq_f, bfits_t, bfits_f, wr64, List.length_take, List.length_drop, List.length_append] at *
  all_goals omega
 | 6, ι, ⟨hf, h1, h2⟩ => by
  show Round _ _ _ _ _ (leafOf ι g64t6)
  unfold g64t6
  repeat' refine round_fork (fun _ => ?_) (fun _ => ?_)
  all_goals try exact trivial
  all_goals simp (disch := omega) only [ev_v, ev_fn, ev_ki, ev_ks, toI_i, toS_s, toB_b, ev_len, ev_add, ev_sub, ev_mul, ev_quo, ev_rem, ev_cv, ev_cat, beq_t, beq_f, bne_t, bne_f, blt_t, blt_f, ble_t, ble_f, bgt_t, bgt_f, bge_t, bge_f, bseq_t, bseq_f, bfits_t, bfits_f, wr64, List.length_take, List.length_drop, List.length_append] at *
  all_goals omega

theorem graphite_reads : Reads 64 := fun l hl => by
 obtain ⟨out, _, h⟩ := fnM_of_graph (orcL_is graphite_oracles) g64ok g64in rfl (Inv := invGr []) (μ := fun i _ => 7 - i) (Q := fun _ => True) (invGr_lt _) (graphite_round []) (ι := asn [.s l]) rfl ⟨rfl, hl⟩
 exact ⟨out, h⟩
end Go.Eng
