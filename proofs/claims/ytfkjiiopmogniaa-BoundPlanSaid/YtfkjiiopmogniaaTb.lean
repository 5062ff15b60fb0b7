/- The table of the types. -/
import Derived.Test.YtfkjiiopmogniaaChecked
import Derived.Test.YtfkjiiopmogniaaAb4
import Derived.KernelRfl
namespace L12
open Go Go.Abs Go.Proofs
abbrev ti1 : TI := ⟨.other, 1, 8, [Value.nilFunc]⟩
theorem tok1 : TiOk Try.prog 1 ti1 where
  info := ⟨(Try.prog.info? 1).getD default, by kernel_rfl, by kernel_rfl, by kernel_rfl, (((Try.prog.info? 1).getD default).zero).getD undef, by kernel_rfl, by kernel_rfl⟩
  len := rfl
  one := all_one rfl
  k := ⟨(Try.prog.underlying 1).getD .invalid, by kernel_rfl, by kernel_rfl⟩
abbrev ti2 : TI := ⟨.int .i64, 1, 8, [Value.int .i64 0]⟩
theorem tok2 : TiOk Try.prog 2 ti2 where
  info := ⟨(Try.prog.info? 2).getD default, by kernel_rfl, by kernel_rfl, by kernel_rfl, (((Try.prog.info? 2).getD default).zero).getD undef, by kernel_rfl, by kernel_rfl⟩
  len := rfl
  one := all_one rfl
  k := (show Try.prog.underlying 2 = some (.int .i64) from by kernel_rfl)
abbrev ti3 : TI := ⟨.int .i64, 1, 8, [Value.int .i64 0]⟩
theorem tok3 : TiOk Try.prog 3 ti3 where
  info := ⟨(Try.prog.info? 3).getD default, by kernel_rfl, by kernel_rfl, by kernel_rfl, (((Try.prog.info? 3).getD default).zero).getD undef, by kernel_rfl, by kernel_rfl⟩
  len := rfl
  one := all_one rfl
  k := (show Try.prog.underlying 3 = some (.int .i64) from by kernel_rfl)
abbrev ti4 : TI := ⟨.bool, 1, 1, [Value.bool false]⟩
theorem tok4 : TiOk Try.prog 4 ti4 where
  info := ⟨(Try.prog.info? 4).getD default, by kernel_rfl, by kernel_rfl, by kernel_rfl, (((Try.prog.info? 4).getD default).zero).getD undef, by kernel_rfl, by kernel_rfl⟩
  len := rfl
  one := all_one rfl
  k := (show Try.prog.underlying 4 = some (.bool) from by kernel_rfl)
abbrev ti5 : TI := ⟨.int .u8, 1, 1, [Value.int .u8 0]⟩
theorem tok5 : TiOk Try.prog 5 ti5 where
  info := ⟨(Try.prog.info? 5).getD default, by kernel_rfl, by kernel_rfl, by kernel_rfl, (((Try.prog.info? 5).getD default).zero).getD undef, by kernel_rfl, by kernel_rfl⟩
  len := rfl
  one := all_one rfl
  k := (show Try.prog.underlying 5 = some (.int .u8) from by kernel_rfl)
abbrev ti6 : TI := ⟨.int .u8, 1, 1, [Value.int .u8 0]⟩
theorem tok6 : TiOk Try.prog 6 ti6 where
  info := ⟨(Try.prog.info? 6).getD default, by kernel_rfl, by kernel_rfl, by kernel_rfl, (((Try.prog.info? 6).getD default).zero).getD undef, by kernel_rfl, by kernel_rfl⟩
  len := rfl
  one := all_one rfl
  k := (show Try.prog.underlying 6 = some (.int .u8) from by kernel_rfl)
abbrev ti7 : TI := ⟨.struct [(0, 2), (1, 3), (2, 4), (3, 6)], 4, 24, [Value.int .i64 0, Value.int .i64 0, Value.bool false, Value.int .u8 0]⟩
theorem tok7 : TiOk Try.prog 7 ti7 where
  info := ⟨(Try.prog.info? 7).getD default, by kernel_rfl, by kernel_rfl, by kernel_rfl, (((Try.prog.info? 7).getD default).zero).getD undef, by kernel_rfl, by kernel_rfl⟩
  len := rfl
  one := all_one rfl
  k := ⟨(match Try.prog.underlying 7 with | some (.struct f) => f | _ => #[]), by kernel_rfl, by kernel_rfl⟩
abbrev ti8 : TI := ⟨.struct [(0, 2), (1, 3), (2, 4), (3, 6)], 4, 24, [Value.int .i64 0, Value.int .i64 0, Value.bool false, Value.int .u8 0]⟩
theorem tok8 : TiOk Try.prog 8 ti8 where
  info := ⟨(Try.prog.info? 8).getD default, by kernel_rfl, by kernel_rfl, by kernel_rfl, (((Try.prog.info? 8).getD default).zero).getD undef, by kernel_rfl, by kernel_rfl⟩
  len := rfl
  one := all_one rfl
  k := ⟨(match Try.prog.underlying 8 with | some (.struct f) => f | _ => #[]), by kernel_rfl, by kernel_rfl⟩
abbrev ti12 : TI := ⟨.int .u64, 1, 8, [Value.int .u64 0]⟩
theorem tok12 : TiOk Try.prog 12 ti12 where
  info := ⟨(Try.prog.info? 12).getD default, by kernel_rfl, by kernel_rfl, by kernel_rfl, (((Try.prog.info? 12).getD default).zero).getD undef, by kernel_rfl, by kernel_rfl⟩
  len := rfl
  one := all_one rfl
  k := (show Try.prog.underlying 12 = some (.int .u64) from by kernel_rfl)
abbrev ti15 : TI := ⟨.other, 1, 8, [Value.pointer none]⟩
theorem tok15 : TiOk Try.prog 15 ti15 where
  info := ⟨(Try.prog.info? 15).getD default, by kernel_rfl, by kernel_rfl, by kernel_rfl, (((Try.prog.info? 15).getD default).zero).getD undef, by kernel_rfl, by kernel_rfl⟩
  len := rfl
  one := all_one rfl
  k := ⟨(Try.prog.underlying 15).getD .invalid, by kernel_rfl, by kernel_rfl⟩
abbrev ti16 : TI := ⟨.other, 1, 8, [Value.pointer none]⟩
theorem tok16 : TiOk Try.prog 16 ti16 where
  info := ⟨(Try.prog.info? 16).getD default, by kernel_rfl, by kernel_rfl, by kernel_rfl, (((Try.prog.info? 16).getD default).zero).getD undef, by kernel_rfl, by kernel_rfl⟩
  len := rfl
  one := all_one rfl
  k := ⟨(Try.prog.underlying 16).getD .invalid, by kernel_rfl, by kernel_rfl⟩
abbrev ti17 : TI := ⟨.other, 1, 8, [Value.pointer none]⟩
theorem tok17 : TiOk Try.prog 17 ti17 where
  info := ⟨(Try.prog.info? 17).getD default, by kernel_rfl, by kernel_rfl, by kernel_rfl, (((Try.prog.info? 17).getD default).zero).getD undef, by kernel_rfl, by kernel_rfl⟩
  len := rfl
  one := all_one rfl
  k := ⟨(Try.prog.underlying 17).getD .invalid, by kernel_rfl, by kernel_rfl⟩
abbrev ti18 : TI := ⟨.struct [(0, 17)], 1, 8, [Value.pointer none]⟩
theorem tok18 : TiOk Try.prog 18 ti18 where
  info := ⟨(Try.prog.info? 18).getD default, by kernel_rfl, by kernel_rfl, by kernel_rfl, (((Try.prog.info? 18).getD default).zero).getD undef, by kernel_rfl, by kernel_rfl⟩
  len := rfl
  one := all_one rfl
  k := ⟨(match Try.prog.underlying 18 with | some (.struct f) => f | _ => #[]), by kernel_rfl, by kernel_rfl⟩
abbrev ti19 : TI := ⟨.struct [(0, 17)], 1, 8, [Value.pointer none]⟩
theorem tok19 : TiOk Try.prog 19 ti19 where
  info := ⟨(Try.prog.info? 19).getD default, by kernel_rfl, by kernel_rfl, by kernel_rfl, (((Try.prog.info? 19).getD default).zero).getD undef, by kernel_rfl, by kernel_rfl⟩
  len := rfl
  one := all_one rfl
  k := ⟨(match Try.prog.underlying 19 with | some (.struct f) => f | _ => #[]), by kernel_rfl, by kernel_rfl⟩
abbrev ti21 : TI := ⟨.int .i32, 1, 4, [Value.int .i32 0]⟩
theorem tok21 : TiOk Try.prog 21 ti21 where
  info := ⟨(Try.prog.info? 21).getD default, by kernel_rfl, by kernel_rfl, by kernel_rfl, (((Try.prog.info? 21).getD default).zero).getD undef, by kernel_rfl, by kernel_rfl⟩
  len := rfl
  one := all_one rfl
  k := (show Try.prog.underlying 21 = some (.int .i32) from by kernel_rfl)
abbrev ti22 : TI := ⟨.slice 2, 1, 24, [Value.slice none 0 0]⟩
theorem tok22 : TiOk Try.prog 22 ti22 where
  info := ⟨(Try.prog.info? 22).getD default, by kernel_rfl, by kernel_rfl, by kernel_rfl, (((Try.prog.info? 22).getD default).zero).getD undef, by kernel_rfl, by kernel_rfl⟩
  len := rfl
  one := all_one rfl
  k := (show Try.prog.underlying 22 = some (.slice 2) from by kernel_rfl)
abbrev ti23 : TI := ⟨.struct [(0, 3), (1, 22), (2, 22)], 3, 56, [Value.int .i64 0, Value.slice none 0 0, Value.slice none 0 0]⟩
theorem tok23 : TiOk Try.prog 23 ti23 where
  info := ⟨(Try.prog.info? 23).getD default, by kernel_rfl, by kernel_rfl, by kernel_rfl, (((Try.prog.info? 23).getD default).zero).getD undef, by kernel_rfl, by kernel_rfl⟩
  len := rfl
  one := all_one rfl
  k := ⟨(match Try.prog.underlying 23 with | some (.struct f) => f | _ => #[]), by kernel_rfl, by kernel_rfl⟩
abbrev ti24 : TI := ⟨.struct [(0, 3), (1, 22), (2, 22)], 3, 56, [Value.int .i64 0, Value.slice none 0 0, Value.slice none 0 0]⟩
theorem tok24 : TiOk Try.prog 24 ti24 where
  info := ⟨(Try.prog.info? 24).getD default, by kernel_rfl, by kernel_rfl, by kernel_rfl, (((Try.prog.info? 24).getD default).zero).getD undef, by kernel_rfl, by kernel_rfl⟩
  len := rfl
  one := all_one rfl
  k := ⟨(match Try.prog.underlying 24 with | some (.struct f) => f | _ => #[]), by kernel_rfl, by kernel_rfl⟩
abbrev ti25 : TI := ⟨.slice 48, 1, 24, [Value.slice none 0 0]⟩
theorem tok25 : TiOk Try.prog 25 ti25 where
  info := ⟨(Try.prog.info? 25).getD default, by kernel_rfl, by kernel_rfl, by kernel_rfl, (((Try.prog.info? 25).getD default).zero).getD undef, by kernel_rfl, by kernel_rfl⟩
  len := rfl
  one := all_one rfl
  k := (show Try.prog.underlying 25 = some (.slice 48) from by kernel_rfl)
abbrev ti26 : TI := ⟨.slice 50, 1, 24, [Value.slice none 0 0]⟩
theorem tok26 : TiOk Try.prog 26 ti26 where
  info := ⟨(Try.prog.info? 26).getD default, by kernel_rfl, by kernel_rfl, by kernel_rfl, (((Try.prog.info? 26).getD default).zero).getD undef, by kernel_rfl, by kernel_rfl⟩
  len := rfl
  one := all_one rfl
  k := (show Try.prog.underlying 26 = some (.slice 50) from by kernel_rfl)
abbrev ti27 : TI := ⟨.struct [(0, 24), (3, 25), (4, 26)], 5, 104, [Value.int .i64 0, Value.slice none 0 0, Value.slice none 0 0, Value.slice none 0 0, Value.slice none 0 0]⟩
theorem tok27 : TiOk Try.prog 27 ti27 where
  info := ⟨(Try.prog.info? 27).getD default, by kernel_rfl, by kernel_rfl, by kernel_rfl, (((Try.prog.info? 27).getD default).zero).getD undef, by kernel_rfl, by kernel_rfl⟩
  len := rfl
  one := all_one rfl
  k := ⟨(match Try.prog.underlying 27 with | some (.struct f) => f | _ => #[]), by kernel_rfl, by kernel_rfl⟩
abbrev ti28 : TI := ⟨.struct [(0, 24), (3, 25), (4, 26)], 5, 104, [Value.int .i64 0, Value.slice none 0 0, Value.slice none 0 0, Value.slice none 0 0, Value.slice none 0 0]⟩
theorem tok28 : TiOk Try.prog 28 ti28 where
  info := ⟨(Try.prog.info? 28).getD default, by kernel_rfl, by kernel_rfl, by kernel_rfl, (((Try.prog.info? 28).getD default).zero).getD undef, by kernel_rfl, by kernel_rfl⟩
  len := rfl
  one := all_one rfl
  k := ⟨(match Try.prog.underlying 28 with | some (.struct f) => f | _ => #[]), by kernel_rfl, by kernel_rfl⟩
abbrev ti29 : TI := ⟨.slice 3, 1, 24, [Value.slice none 0 0]⟩
theorem tok29 : TiOk Try.prog 29 ti29 where
  info := ⟨(Try.prog.info? 29).getD default, by kernel_rfl, by kernel_rfl, by kernel_rfl, (((Try.prog.info? 29).getD default).zero).getD undef, by kernel_rfl, by kernel_rfl⟩
  len := rfl
  one := all_one rfl
  k := (show Try.prog.underlying 29 = some (.slice 3) from by kernel_rfl)
abbrev ti30 : TI := ⟨.struct [(0, 29), (1, 22), (2, 2), (3, 2), (4, 2), (5, 2)], 6, 80, [Value.slice none 0 0, Value.slice none 0 0, Value.int .i64 0, Value.int .i64 0, Value.int .i64 0, Value.int .i64 0]⟩
theorem tok30 : TiOk Try.prog 30 ti30 where
  info := ⟨(Try.prog.info? 30).getD default, by kernel_rfl, by kernel_rfl, by kernel_rfl, (((Try.prog.info? 30).getD default).zero).getD undef, by kernel_rfl, by kernel_rfl⟩
  len := rfl
  one := all_one rfl
  k := ⟨(match Try.prog.underlying 30 with | some (.struct f) => f | _ => #[]), by kernel_rfl, by kernel_rfl⟩
abbrev ti31 : TI := ⟨.struct [(0, 29), (1, 22), (2, 2), (3, 2), (4, 2), (5, 2)], 6, 80, [Value.slice none 0 0, Value.slice none 0 0, Value.int .i64 0, Value.int .i64 0, Value.int .i64 0, Value.int .i64 0]⟩
theorem tok31 : TiOk Try.prog 31 ti31 where
  info := ⟨(Try.prog.info? 31).getD default, by kernel_rfl, by kernel_rfl, by kernel_rfl, (((Try.prog.info? 31).getD default).zero).getD undef, by kernel_rfl, by kernel_rfl⟩
  len := rfl
  one := all_one rfl
  k := ⟨(match Try.prog.underlying 31 with | some (.struct f) => f | _ => #[]), by kernel_rfl, by kernel_rfl⟩
abbrev ti32 : TI := ⟨.slice 55, 1, 24, [Value.slice none 0 0]⟩
theorem tok32 : TiOk Try.prog 32 ti32 where
  info := ⟨(Try.prog.info? 32).getD default, by kernel_rfl, by kernel_rfl, by kernel_rfl, (((Try.prog.info? 32).getD default).zero).getD undef, by kernel_rfl, by kernel_rfl⟩
  len := rfl
  one := all_one rfl
  k := (show Try.prog.underlying 32 = some (.slice 55) from by kernel_rfl)
abbrev ti33 : TI := ⟨.struct [(0, 32), (1, 29)], 2, 48, [Value.slice none 0 0, Value.slice none 0 0]⟩
theorem tok33 : TiOk Try.prog 33 ti33 where
  info := ⟨(Try.prog.info? 33).getD default, by kernel_rfl, by kernel_rfl, by kernel_rfl, (((Try.prog.info? 33).getD default).zero).getD undef, by kernel_rfl, by kernel_rfl⟩
  len := rfl
  one := all_one rfl
  k := ⟨(match Try.prog.underlying 33 with | some (.struct f) => f | _ => #[]), by kernel_rfl, by kernel_rfl⟩
abbrev ti34 : TI := ⟨.struct [(0, 32), (1, 29)], 2, 48, [Value.slice none 0 0, Value.slice none 0 0]⟩
theorem tok34 : TiOk Try.prog 34 ti34 where
  info := ⟨(Try.prog.info? 34).getD default, by kernel_rfl, by kernel_rfl, by kernel_rfl, (((Try.prog.info? 34).getD default).zero).getD undef, by kernel_rfl, by kernel_rfl⟩
  len := rfl
  one := all_one rfl
  k := ⟨(match Try.prog.underlying 34 with | some (.struct f) => f | _ => #[]), by kernel_rfl, by kernel_rfl⟩
abbrev ti35 : TI := ⟨.other, 1, 8, [Value.nilFunc]⟩
theorem tok35 : TiOk Try.prog 35 ti35 where
  info := ⟨(Try.prog.info? 35).getD default, by kernel_rfl, by kernel_rfl, by kernel_rfl, (((Try.prog.info? 35).getD default).zero).getD undef, by kernel_rfl, by kernel_rfl⟩
  len := rfl
  one := all_one rfl
  k := ⟨(Try.prog.underlying 35).getD .invalid, by kernel_rfl, by kernel_rfl⟩
abbrev ti36 : TI := ⟨.other, 1, 8, [Value.nilFunc]⟩
theorem tok36 : TiOk Try.prog 36 ti36 where
  info := ⟨(Try.prog.info? 36).getD default, by kernel_rfl, by kernel_rfl, by kernel_rfl, (((Try.prog.info? 36).getD default).zero).getD undef, by kernel_rfl, by kernel_rfl⟩
  len := rfl
  one := all_one rfl
  k := ⟨(Try.prog.underlying 36).getD .invalid, by kernel_rfl, by kernel_rfl⟩
abbrev ti37 : TI := ⟨.other, 1, 8, [Value.nilFunc]⟩
theorem tok37 : TiOk Try.prog 37 ti37 where
  info := ⟨(Try.prog.info? 37).getD default, by kernel_rfl, by kernel_rfl, by kernel_rfl, (((Try.prog.info? 37).getD default).zero).getD undef, by kernel_rfl, by kernel_rfl⟩
  len := rfl
  one := all_one rfl
  k := ⟨(Try.prog.underlying 37).getD .invalid, by kernel_rfl, by kernel_rfl⟩
abbrev ti38 : TI := ⟨.int .i64, 1, 8, [Value.int .i64 0]⟩
theorem tok38 : TiOk Try.prog 38 ti38 where
  info := ⟨(Try.prog.info? 38).getD default, by kernel_rfl, by kernel_rfl, by kernel_rfl, (((Try.prog.info? 38).getD default).zero).getD undef, by kernel_rfl, by kernel_rfl⟩
  len := rfl
  one := all_one rfl
  k := (show Try.prog.underlying 38 = some (.int .i64) from by kernel_rfl)
abbrev ti40 : TI := ⟨.other, 1, 8, [Value.nilFunc]⟩
theorem tok40 : TiOk Try.prog 40 ti40 where
  info := ⟨(Try.prog.info? 40).getD default, by kernel_rfl, by kernel_rfl, by kernel_rfl, (((Try.prog.info? 40).getD default).zero).getD undef, by kernel_rfl, by kernel_rfl⟩
  len := rfl
  one := all_one rfl
  k := ⟨(Try.prog.underlying 40).getD .invalid, by kernel_rfl, by kernel_rfl⟩
abbrev ti41 : TI := ⟨.other, 1, 8, [Value.nilFunc]⟩
theorem tok41 : TiOk Try.prog 41 ti41 where
  info := ⟨(Try.prog.info? 41).getD default, by kernel_rfl, by kernel_rfl, by kernel_rfl, (((Try.prog.info? 41).getD default).zero).getD undef, by kernel_rfl, by kernel_rfl⟩
  len := rfl
  one := all_one rfl
  k := ⟨(Try.prog.underlying 41).getD .invalid, by kernel_rfl, by kernel_rfl⟩
abbrev ti42 : TI := ⟨.other, 1, 8, [Value.nilFunc]⟩
theorem tok42 : TiOk Try.prog 42 ti42 where
  info := ⟨(Try.prog.info? 42).getD default, by kernel_rfl, by kernel_rfl, by kernel_rfl, (((Try.prog.info? 42).getD default).zero).getD undef, by kernel_rfl, by kernel_rfl⟩
  len := rfl
  one := all_one rfl
  k := ⟨(Try.prog.underlying 42).getD .invalid, by kernel_rfl, by kernel_rfl⟩
abbrev ti43 : TI := ⟨.other, 1, 8, [Value.nilFunc]⟩
theorem tok43 : TiOk Try.prog 43 ti43 where
  info := ⟨(Try.prog.info? 43).getD default, by kernel_rfl, by kernel_rfl, by kernel_rfl, (((Try.prog.info? 43).getD default).zero).getD undef, by kernel_rfl, by kernel_rfl⟩
  len := rfl
  one := all_one rfl
  k := ⟨(Try.prog.underlying 43).getD .invalid, by kernel_rfl, by kernel_rfl⟩
abbrev ti45 : TI := ⟨.other, 1, 8, [Value.nilFunc]⟩
theorem tok45 : TiOk Try.prog 45 ti45 where
  info := ⟨(Try.prog.info? 45).getD default, by kernel_rfl, by kernel_rfl, by kernel_rfl, (((Try.prog.info? 45).getD default).zero).getD undef, by kernel_rfl, by kernel_rfl⟩
  len := rfl
  one := all_one rfl
  k := ⟨(Try.prog.underlying 45).getD .invalid, by kernel_rfl, by kernel_rfl⟩
abbrev ti46 : TI := ⟨.other, 1, 8, [Value.nilFunc]⟩
theorem tok46 : TiOk Try.prog 46 ti46 where
  info := ⟨(Try.prog.info? 46).getD default, by kernel_rfl, by kernel_rfl, by kernel_rfl, (((Try.prog.info? 46).getD default).zero).getD undef, by kernel_rfl, by kernel_rfl⟩
  len := rfl
  one := all_one rfl
  k := ⟨(Try.prog.underlying 46).getD .invalid, by kernel_rfl, by kernel_rfl⟩
abbrev ti47 : TI := ⟨.struct [(0, 3), (1, 3), (2, 3), (3, 2), (4, 2), (5, 2), (6, 2), (7, 2)], 8, 64, [Value.int .i64 0, Value.int .i64 0, Value.int .i64 0, Value.int .i64 0, Value.int .i64 0, Value.int .i64 0, Value.int .i64 0, Value.int .i64 0]⟩
theorem tok47 : TiOk Try.prog 47 ti47 where
  info := ⟨(Try.prog.info? 47).getD default, by kernel_rfl, by kernel_rfl, by kernel_rfl, (((Try.prog.info? 47).getD default).zero).getD undef, by kernel_rfl, by kernel_rfl⟩
  len := rfl
  one := all_one rfl
  k := ⟨(match Try.prog.underlying 47 with | some (.struct f) => f | _ => #[]), by kernel_rfl, by kernel_rfl⟩
abbrev ti48 : TI := ⟨.struct [(0, 3), (1, 3), (2, 3), (3, 2), (4, 2), (5, 2), (6, 2), (7, 2)], 8, 64, [Value.int .i64 0, Value.int .i64 0, Value.int .i64 0, Value.int .i64 0, Value.int .i64 0, Value.int .i64 0, Value.int .i64 0, Value.int .i64 0]⟩
theorem tok48 : TiOk Try.prog 48 ti48 where
  info := ⟨(Try.prog.info? 48).getD default, by kernel_rfl, by kernel_rfl, by kernel_rfl, (((Try.prog.info? 48).getD default).zero).getD undef, by kernel_rfl, by kernel_rfl⟩
  len := rfl
  one := all_one rfl
  k := ⟨(match Try.prog.underlying 48 with | some (.struct f) => f | _ => #[]), by kernel_rfl, by kernel_rfl⟩
abbrev ti49 : TI := ⟨.struct [(0, 3), (1, 2), (2, 2), (3, 2), (4, 2), (5, 2), (6, 2)], 7, 56, [Value.int .i64 0, Value.int .i64 0, Value.int .i64 0, Value.int .i64 0, Value.int .i64 0, Value.int .i64 0, Value.int .i64 0]⟩
theorem tok49 : TiOk Try.prog 49 ti49 where
  info := ⟨(Try.prog.info? 49).getD default, by kernel_rfl, by kernel_rfl, by kernel_rfl, (((Try.prog.info? 49).getD default).zero).getD undef, by kernel_rfl, by kernel_rfl⟩
  len := rfl
  one := all_one rfl
  k := ⟨(match Try.prog.underlying 49 with | some (.struct f) => f | _ => #[]), by kernel_rfl, by kernel_rfl⟩
abbrev ti50 : TI := ⟨.struct [(0, 3), (1, 2), (2, 2), (3, 2), (4, 2), (5, 2), (6, 2)], 7, 56, [Value.int .i64 0, Value.int .i64 0, Value.int .i64 0, Value.int .i64 0, Value.int .i64 0, Value.int .i64 0, Value.int .i64 0]⟩
theorem tok50 : TiOk Try.prog 50 ti50 where
  info := ⟨(Try.prog.info? 50).getD default, by kernel_rfl, by kernel_rfl, by kernel_rfl, (((Try.prog.info? 50).getD default).zero).getD undef, by kernel_rfl, by kernel_rfl⟩
  len := rfl
  one := all_one rfl
  k := ⟨(match Try.prog.underlying 50 with | some (.struct f) => f | _ => #[]), by kernel_rfl, by kernel_rfl⟩
abbrev ti51 : TI := ⟨.other, 1, 8, [Value.nilFunc]⟩
theorem tok51 : TiOk Try.prog 51 ti51 where
  info := ⟨(Try.prog.info? 51).getD default, by kernel_rfl, by kernel_rfl, by kernel_rfl, (((Try.prog.info? 51).getD default).zero).getD undef, by kernel_rfl, by kernel_rfl⟩
  len := rfl
  one := all_one rfl
  k := ⟨(Try.prog.underlying 51).getD .invalid, by kernel_rfl, by kernel_rfl⟩
abbrev ti52 : TI := ⟨.struct [(0, 29), (1, 22), (2, 2), (3, 2), (4, 2), (5, 2)], 6, 80, [Value.slice none 0 0, Value.slice none 0 0, Value.int .i64 0, Value.int .i64 0, Value.int .i64 0, Value.int .i64 0]⟩
theorem tok52 : TiOk Try.prog 52 ti52 where
  info := ⟨(Try.prog.info? 52).getD default, by kernel_rfl, by kernel_rfl, by kernel_rfl, (((Try.prog.info? 52).getD default).zero).getD undef, by kernel_rfl, by kernel_rfl⟩
  len := rfl
  one := all_one rfl
  k := ⟨(match Try.prog.underlying 52 with | some (.struct f) => f | _ => #[]), by kernel_rfl, by kernel_rfl⟩
abbrev ti53 : TI := ⟨.other, 1, 8, [Value.nilFunc]⟩
theorem tok53 : TiOk Try.prog 53 ti53 where
  info := ⟨(Try.prog.info? 53).getD default, by kernel_rfl, by kernel_rfl, by kernel_rfl, (((Try.prog.info? 53).getD default).zero).getD undef, by kernel_rfl, by kernel_rfl⟩
  len := rfl
  one := all_one rfl
  k := ⟨(Try.prog.underlying 53).getD .invalid, by kernel_rfl, by kernel_rfl⟩
abbrev ti54 : TI := ⟨.struct [(0, 3), (1, 29)], 2, 32, [Value.int .i64 0, Value.slice none 0 0]⟩
theorem tok54 : TiOk Try.prog 54 ti54 where
  info := ⟨(Try.prog.info? 54).getD default, by kernel_rfl, by kernel_rfl, by kernel_rfl, (((Try.prog.info? 54).getD default).zero).getD undef, by kernel_rfl, by kernel_rfl⟩
  len := rfl
  one := all_one rfl
  k := ⟨(match Try.prog.underlying 54 with | some (.struct f) => f | _ => #[]), by kernel_rfl, by kernel_rfl⟩
abbrev ti55 : TI := ⟨.struct [(0, 3), (1, 29)], 2, 32, [Value.int .i64 0, Value.slice none 0 0]⟩
theorem tok55 : TiOk Try.prog 55 ti55 where
  info := ⟨(Try.prog.info? 55).getD default, by kernel_rfl, by kernel_rfl, by kernel_rfl, (((Try.prog.info? 55).getD default).zero).getD undef, by kernel_rfl, by kernel_rfl⟩
  len := rfl
  one := all_one rfl
  k := ⟨(match Try.prog.underlying 55 with | some (.struct f) => f | _ => #[]), by kernel_rfl, by kernel_rfl⟩
abbrev ti56 : TI := ⟨.other, 1, 8, [Value.nilFunc]⟩
theorem tok56 : TiOk Try.prog 56 ti56 where
  info := ⟨(Try.prog.info? 56).getD default, by kernel_rfl, by kernel_rfl, by kernel_rfl, (((Try.prog.info? 56).getD default).zero).getD undef, by kernel_rfl, by kernel_rfl⟩
  len := rfl
  one := all_one rfl
  k := ⟨(Try.prog.underlying 56).getD .invalid, by kernel_rfl, by kernel_rfl⟩
abbrev ti57 : TI := ⟨.slice 123, 1, 24, [Value.slice none 0 0]⟩
theorem tok57 : TiOk Try.prog 57 ti57 where
  info := ⟨(Try.prog.info? 57).getD default, by kernel_rfl, by kernel_rfl, by kernel_rfl, (((Try.prog.info? 57).getD default).zero).getD undef, by kernel_rfl, by kernel_rfl⟩
  len := rfl
  one := all_one rfl
  k := (show Try.prog.underlying 57 = some (.slice 123) from by kernel_rfl)
abbrev ti58 : TI := ⟨.struct [(0, 57), (1, 2), (2, 2), (3, 2)], 4, 48, [Value.slice none 0 0, Value.int .i64 0, Value.int .i64 0, Value.int .i64 0]⟩
theorem tok58 : TiOk Try.prog 58 ti58 where
  info := ⟨(Try.prog.info? 58).getD default, by kernel_rfl, by kernel_rfl, by kernel_rfl, (((Try.prog.info? 58).getD default).zero).getD undef, by kernel_rfl, by kernel_rfl⟩
  len := rfl
  one := all_one rfl
  k := ⟨(match Try.prog.underlying 58 with | some (.struct f) => f | _ => #[]), by kernel_rfl, by kernel_rfl⟩
abbrev ti59 : TI := ⟨.struct [(0, 57), (1, 2), (2, 2), (3, 2)], 4, 48, [Value.slice none 0 0, Value.int .i64 0, Value.int .i64 0, Value.int .i64 0]⟩
theorem tok59 : TiOk Try.prog 59 ti59 where
  info := ⟨(Try.prog.info? 59).getD default, by kernel_rfl, by kernel_rfl, by kernel_rfl, (((Try.prog.info? 59).getD default).zero).getD undef, by kernel_rfl, by kernel_rfl⟩
  len := rfl
  one := all_one rfl
  k := ⟨(match Try.prog.underlying 59 with | some (.struct f) => f | _ => #[]), by kernel_rfl, by kernel_rfl⟩
abbrev ti61 : TI := ⟨.other, 1, 8, [Value.nilFunc]⟩
theorem tok61 : TiOk Try.prog 61 ti61 where
  info := ⟨(Try.prog.info? 61).getD default, by kernel_rfl, by kernel_rfl, by kernel_rfl, (((Try.prog.info? 61).getD default).zero).getD undef, by kernel_rfl, by kernel_rfl⟩
  len := rfl
  one := all_one rfl
  k := ⟨(Try.prog.underlying 61).getD .invalid, by kernel_rfl, by kernel_rfl⟩
abbrev ti62 : TI := ⟨.other, 1, 8, [Value.nilFunc]⟩
theorem tok62 : TiOk Try.prog 62 ti62 where
  info := ⟨(Try.prog.info? 62).getD default, by kernel_rfl, by kernel_rfl, by kernel_rfl, (((Try.prog.info? 62).getD default).zero).getD undef, by kernel_rfl, by kernel_rfl⟩
  len := rfl
  one := all_one rfl
  k := ⟨(Try.prog.underlying 62).getD .invalid, by kernel_rfl, by kernel_rfl⟩
abbrev ti63 : TI := ⟨.other, 1, 8, [Value.nilFunc]⟩
theorem tok63 : TiOk Try.prog 63 ti63 where
  info := ⟨(Try.prog.info? 63).getD default, by kernel_rfl, by kernel_rfl, by kernel_rfl, (((Try.prog.info? 63).getD default).zero).getD undef, by kernel_rfl, by kernel_rfl⟩
  len := rfl
  one := all_one rfl
  k := ⟨(Try.prog.underlying 63).getD .invalid, by kernel_rfl, by kernel_rfl⟩
abbrev ti64 : TI := ⟨.other, 1, 8, [Value.nilFunc]⟩
theorem tok64 : TiOk Try.prog 64 ti64 where
  info := ⟨(Try.prog.info? 64).getD default, by kernel_rfl, by kernel_rfl, by kernel_rfl, (((Try.prog.info? 64).getD default).zero).getD undef, by kernel_rfl, by kernel_rfl⟩
  len := rfl
  one := all_one rfl
  k := ⟨(Try.prog.underlying 64).getD .invalid, by kernel_rfl, by kernel_rfl⟩
abbrev ti65 : TI := ⟨.other, 1, 8, [Value.nilFunc]⟩
theorem tok65 : TiOk Try.prog 65 ti65 where
  info := ⟨(Try.prog.info? 65).getD default, by kernel_rfl, by kernel_rfl, by kernel_rfl, (((Try.prog.info? 65).getD default).zero).getD undef, by kernel_rfl, by kernel_rfl⟩
  len := rfl
  one := all_one rfl
  k := ⟨(Try.prog.underlying 65).getD .invalid, by kernel_rfl, by kernel_rfl⟩
abbrev ti66 : TI := ⟨.other, 1, 8, [Value.nilFunc]⟩
theorem tok66 : TiOk Try.prog 66 ti66 where
  info := ⟨(Try.prog.info? 66).getD default, by kernel_rfl, by kernel_rfl, by kernel_rfl, (((Try.prog.info? 66).getD default).zero).getD undef, by kernel_rfl, by kernel_rfl⟩
  len := rfl
  one := all_one rfl
  k := ⟨(Try.prog.underlying 66).getD .invalid, by kernel_rfl, by kernel_rfl⟩
abbrev ti67 : TI := ⟨.other, 1, 8, [Value.nilFunc]⟩
theorem tok67 : TiOk Try.prog 67 ti67 where
  info := ⟨(Try.prog.info? 67).getD default, by kernel_rfl, by kernel_rfl, by kernel_rfl, (((Try.prog.info? 67).getD default).zero).getD undef, by kernel_rfl, by kernel_rfl⟩
  len := rfl
  one := all_one rfl
  k := ⟨(Try.prog.underlying 67).getD .invalid, by kernel_rfl, by kernel_rfl⟩
abbrev ti68 : TI := ⟨.other, 1, 8, [Value.nilFunc]⟩
theorem tok68 : TiOk Try.prog 68 ti68 where
  info := ⟨(Try.prog.info? 68).getD default, by kernel_rfl, by kernel_rfl, by kernel_rfl, (((Try.prog.info? 68).getD default).zero).getD undef, by kernel_rfl, by kernel_rfl⟩
  len := rfl
  one := all_one rfl
  k := ⟨(Try.prog.underlying 68).getD .invalid, by kernel_rfl, by kernel_rfl⟩
abbrev ti69 : TI := ⟨.other, 1, 8, [Value.nilFunc]⟩
theorem tok69 : TiOk Try.prog 69 ti69 where
  info := ⟨(Try.prog.info? 69).getD default, by kernel_rfl, by kernel_rfl, by kernel_rfl, (((Try.prog.info? 69).getD default).zero).getD undef, by kernel_rfl, by kernel_rfl⟩
  len := rfl
  one := all_one rfl
  k := ⟨(Try.prog.underlying 69).getD .invalid, by kernel_rfl, by kernel_rfl⟩
abbrev ti70 : TI := ⟨.other, 1, 8, [Value.nilFunc]⟩
theorem tok70 : TiOk Try.prog 70 ti70 where
  info := ⟨(Try.prog.info? 70).getD default, by kernel_rfl, by kernel_rfl, by kernel_rfl, (((Try.prog.info? 70).getD default).zero).getD undef, by kernel_rfl, by kernel_rfl⟩
  len := rfl
  one := all_one rfl
  k := ⟨(Try.prog.underlying 70).getD .invalid, by kernel_rfl, by kernel_rfl⟩
abbrev ti71 : TI := ⟨.other, 1, 8, [Value.nilFunc]⟩
theorem tok71 : TiOk Try.prog 71 ti71 where
  info := ⟨(Try.prog.info? 71).getD default, by kernel_rfl, by kernel_rfl, by kernel_rfl, (((Try.prog.info? 71).getD default).zero).getD undef, by kernel_rfl, by kernel_rfl⟩
  len := rfl
  one := all_one rfl
  k := ⟨(Try.prog.underlying 71).getD .invalid, by kernel_rfl, by kernel_rfl⟩
abbrev ti72 : TI := ⟨.other, 1, 8, [Value.nilFunc]⟩
theorem tok72 : TiOk Try.prog 72 ti72 where
  info := ⟨(Try.prog.info? 72).getD default, by kernel_rfl, by kernel_rfl, by kernel_rfl, (((Try.prog.info? 72).getD default).zero).getD undef, by kernel_rfl, by kernel_rfl⟩
  len := rfl
  one := all_one rfl
  k := ⟨(Try.prog.underlying 72).getD .invalid, by kernel_rfl, by kernel_rfl⟩
abbrev ti73 : TI := ⟨.other, 1, 8, [Value.nilFunc]⟩
theorem tok73 : TiOk Try.prog 73 ti73 where
  info := ⟨(Try.prog.info? 73).getD default, by kernel_rfl, by kernel_rfl, by kernel_rfl, (((Try.prog.info? 73).getD default).zero).getD undef, by kernel_rfl, by kernel_rfl⟩
  len := rfl
  one := all_one rfl
  k := ⟨(Try.prog.underlying 73).getD .invalid, by kernel_rfl, by kernel_rfl⟩
abbrev ti74 : TI := ⟨.other, 1, 8, [Value.nilFunc]⟩
theorem tok74 : TiOk Try.prog 74 ti74 where
  info := ⟨(Try.prog.info? 74).getD default, by kernel_rfl, by kernel_rfl, by kernel_rfl, (((Try.prog.info? 74).getD default).zero).getD undef, by kernel_rfl, by kernel_rfl⟩
  len := rfl
  one := all_one rfl
  k := ⟨(Try.prog.underlying 74).getD .invalid, by kernel_rfl, by kernel_rfl⟩
abbrev ti75 : TI := ⟨.other, 1, 8, [Value.nilFunc]⟩
theorem tok75 : TiOk Try.prog 75 ti75 where
  info := ⟨(Try.prog.info? 75).getD default, by kernel_rfl, by kernel_rfl, by kernel_rfl, (((Try.prog.info? 75).getD default).zero).getD undef, by kernel_rfl, by kernel_rfl⟩
  len := rfl
  one := all_one rfl
  k := ⟨(Try.prog.underlying 75).getD .invalid, by kernel_rfl, by kernel_rfl⟩
abbrev ti77 : TI := ⟨.other, 1, 8, [Value.nilFunc]⟩
theorem tok77 : TiOk Try.prog 77 ti77 where
  info := ⟨(Try.prog.info? 77).getD default, by kernel_rfl, by kernel_rfl, by kernel_rfl, (((Try.prog.info? 77).getD default).zero).getD undef, by kernel_rfl, by kernel_rfl⟩
  len := rfl
  one := all_one rfl
  k := ⟨(Try.prog.underlying 77).getD .invalid, by kernel_rfl, by kernel_rfl⟩
abbrev ti78 : TI := ⟨.other, 1, 8, [Value.nilFunc]⟩
theorem tok78 : TiOk Try.prog 78 ti78 where
  info := ⟨(Try.prog.info? 78).getD default, by kernel_rfl, by kernel_rfl, by kernel_rfl, (((Try.prog.info? 78).getD default).zero).getD undef, by kernel_rfl, by kernel_rfl⟩
  len := rfl
  one := all_one rfl
  k := ⟨(Try.prog.underlying 78).getD .invalid, by kernel_rfl, by kernel_rfl⟩
abbrev ti79 : TI := ⟨.other, 1, 8, [Value.nilFunc]⟩
theorem tok79 : TiOk Try.prog 79 ti79 where
  info := ⟨(Try.prog.info? 79).getD default, by kernel_rfl, by kernel_rfl, by kernel_rfl, (((Try.prog.info? 79).getD default).zero).getD undef, by kernel_rfl, by kernel_rfl⟩
  len := rfl
  one := all_one rfl
  k := ⟨(Try.prog.underlying 79).getD .invalid, by kernel_rfl, by kernel_rfl⟩
abbrev ti80 : TI := ⟨.other, 1, 8, [Value.nilFunc]⟩
theorem tok80 : TiOk Try.prog 80 ti80 where
  info := ⟨(Try.prog.info? 80).getD default, by kernel_rfl, by kernel_rfl, by kernel_rfl, (((Try.prog.info? 80).getD default).zero).getD undef, by kernel_rfl, by kernel_rfl⟩
  len := rfl
  one := all_one rfl
  k := ⟨(Try.prog.underlying 80).getD .invalid, by kernel_rfl, by kernel_rfl⟩
abbrev ti81 : TI := ⟨.other, 1, 8, [Value.nilFunc]⟩
theorem tok81 : TiOk Try.prog 81 ti81 where
  info := ⟨(Try.prog.info? 81).getD default, by kernel_rfl, by kernel_rfl, by kernel_rfl, (((Try.prog.info? 81).getD default).zero).getD undef, by kernel_rfl, by kernel_rfl⟩
  len := rfl
  one := all_one rfl
  k := ⟨(Try.prog.underlying 81).getD .invalid, by kernel_rfl, by kernel_rfl⟩
abbrev ti82 : TI := ⟨.other, 1, 8, [Value.nilFunc]⟩
theorem tok82 : TiOk Try.prog 82 ti82 where
  info := ⟨(Try.prog.info? 82).getD default, by kernel_rfl, by kernel_rfl, by kernel_rfl, (((Try.prog.info? 82).getD default).zero).getD undef, by kernel_rfl, by kernel_rfl⟩
  len := rfl
  one := all_one rfl
  k := ⟨(Try.prog.underlying 82).getD .invalid, by kernel_rfl, by kernel_rfl⟩
abbrev ti83 : TI := ⟨.other, 1, 8, [Value.nilFunc]⟩
theorem tok83 : TiOk Try.prog 83 ti83 where
  info := ⟨(Try.prog.info? 83).getD default, by kernel_rfl, by kernel_rfl, by kernel_rfl, (((Try.prog.info? 83).getD default).zero).getD undef, by kernel_rfl, by kernel_rfl⟩
  len := rfl
  one := all_one rfl
  k := ⟨(Try.prog.underlying 83).getD .invalid, by kernel_rfl, by kernel_rfl⟩
abbrev ti85 : TI := ⟨.other, 1, 8, [Value.nilFunc]⟩
theorem tok85 : TiOk Try.prog 85 ti85 where
  info := ⟨(Try.prog.info? 85).getD default, by kernel_rfl, by kernel_rfl, by kernel_rfl, (((Try.prog.info? 85).getD default).zero).getD undef, by kernel_rfl, by kernel_rfl⟩
  len := rfl
  one := all_one rfl
  k := ⟨(Try.prog.underlying 85).getD .invalid, by kernel_rfl, by kernel_rfl⟩
abbrev ti86 : TI := ⟨.other, 1, 8, [Value.nilFunc]⟩
theorem tok86 : TiOk Try.prog 86 ti86 where
  info := ⟨(Try.prog.info? 86).getD default, by kernel_rfl, by kernel_rfl, by kernel_rfl, (((Try.prog.info? 86).getD default).zero).getD undef, by kernel_rfl, by kernel_rfl⟩
  len := rfl
  one := all_one rfl
  k := ⟨(Try.prog.underlying 86).getD .invalid, by kernel_rfl, by kernel_rfl⟩
abbrev ti87 : TI := ⟨.struct [(0, 3), (1, 2), (2, 2)], 3, 24, [Value.int .i64 0, Value.int .i64 0, Value.int .i64 0]⟩
theorem tok87 : TiOk Try.prog 87 ti87 where
  info := ⟨(Try.prog.info? 87).getD default, by kernel_rfl, by kernel_rfl, by kernel_rfl, (((Try.prog.info? 87).getD default).zero).getD undef, by kernel_rfl, by kernel_rfl⟩
  len := rfl
  one := all_one rfl
  k := ⟨(match Try.prog.underlying 87 with | some (.struct f) => f | _ => #[]), by kernel_rfl, by kernel_rfl⟩
abbrev ti88 : TI := ⟨.struct [(0, 3), (1, 2), (2, 2)], 3, 24, [Value.int .i64 0, Value.int .i64 0, Value.int .i64 0]⟩
theorem tok88 : TiOk Try.prog 88 ti88 where
  info := ⟨(Try.prog.info? 88).getD default, by kernel_rfl, by kernel_rfl, by kernel_rfl, (((Try.prog.info? 88).getD default).zero).getD undef, by kernel_rfl, by kernel_rfl⟩
  len := rfl
  one := all_one rfl
  k := ⟨(match Try.prog.underlying 88 with | some (.struct f) => f | _ => #[]), by kernel_rfl, by kernel_rfl⟩
abbrev ti89 : TI := ⟨.struct [(0, 88), (3, 57)], 4, 48, [Value.int .i64 0, Value.int .i64 0, Value.int .i64 0, Value.slice none 0 0]⟩
theorem tok89 : TiOk Try.prog 89 ti89 where
  info := ⟨(Try.prog.info? 89).getD default, by kernel_rfl, by kernel_rfl, by kernel_rfl, (((Try.prog.info? 89).getD default).zero).getD undef, by kernel_rfl, by kernel_rfl⟩
  len := rfl
  one := all_one rfl
  k := ⟨(match Try.prog.underlying 89 with | some (.struct f) => f | _ => #[]), by kernel_rfl, by kernel_rfl⟩
abbrev ti90 : TI := ⟨.struct [(0, 88), (3, 57)], 4, 48, [Value.int .i64 0, Value.int .i64 0, Value.int .i64 0, Value.slice none 0 0]⟩
theorem tok90 : TiOk Try.prog 90 ti90 where
  info := ⟨(Try.prog.info? 90).getD default, by kernel_rfl, by kernel_rfl, by kernel_rfl, (((Try.prog.info? 90).getD default).zero).getD undef, by kernel_rfl, by kernel_rfl⟩
  len := rfl
  one := all_one rfl
  k := ⟨(match Try.prog.underlying 90 with | some (.struct f) => f | _ => #[]), by kernel_rfl, by kernel_rfl⟩
abbrev ti91 : TI := ⟨.other, 1, 8, [Value.nilFunc]⟩
theorem tok91 : TiOk Try.prog 91 ti91 where
  info := ⟨(Try.prog.info? 91).getD default, by kernel_rfl, by kernel_rfl, by kernel_rfl, (((Try.prog.info? 91).getD default).zero).getD undef, by kernel_rfl, by kernel_rfl⟩
  len := rfl
  one := all_one rfl
  k := ⟨(Try.prog.underlying 91).getD .invalid, by kernel_rfl, by kernel_rfl⟩
abbrev ti92 : TI := ⟨.other, 1, 8, [Value.nilFunc]⟩
theorem tok92 : TiOk Try.prog 92 ti92 where
  info := ⟨(Try.prog.info? 92).getD default, by kernel_rfl, by kernel_rfl, by kernel_rfl, (((Try.prog.info? 92).getD default).zero).getD undef, by kernel_rfl, by kernel_rfl⟩
  len := rfl
  one := all_one rfl
  k := ⟨(Try.prog.underlying 92).getD .invalid, by kernel_rfl, by kernel_rfl⟩
abbrev ti94 : TI := ⟨.other, 1, 8, [Value.nilFunc]⟩
theorem tok94 : TiOk Try.prog 94 ti94 where
  info := ⟨(Try.prog.info? 94).getD default, by kernel_rfl, by kernel_rfl, by kernel_rfl, (((Try.prog.info? 94).getD default).zero).getD undef, by kernel_rfl, by kernel_rfl⟩
  len := rfl
  one := all_one rfl
  k := ⟨(Try.prog.underlying 94).getD .invalid, by kernel_rfl, by kernel_rfl⟩
abbrev ti95 : TI := ⟨.other, 1, 8, [Value.nilFunc]⟩
theorem tok95 : TiOk Try.prog 95 ti95 where
  info := ⟨(Try.prog.info? 95).getD default, by kernel_rfl, by kernel_rfl, by kernel_rfl, (((Try.prog.info? 95).getD default).zero).getD undef, by kernel_rfl, by kernel_rfl⟩
  len := rfl
  one := all_one rfl
  k := ⟨(Try.prog.underlying 95).getD .invalid, by kernel_rfl, by kernel_rfl⟩
abbrev ti96 : TI := ⟨.other, 1, 8, [Value.nilFunc]⟩
theorem tok96 : TiOk Try.prog 96 ti96 where
  info := ⟨(Try.prog.info? 96).getD default, by kernel_rfl, by kernel_rfl, by kernel_rfl, (((Try.prog.info? 96).getD default).zero).getD undef, by kernel_rfl, by kernel_rfl⟩
  len := rfl
  one := all_one rfl
  k := ⟨(Try.prog.underlying 96).getD .invalid, by kernel_rfl, by kernel_rfl⟩
abbrev ti97 : TI := ⟨.other, 1, 8, [Value.nilFunc]⟩
theorem tok97 : TiOk Try.prog 97 ti97 where
  info := ⟨(Try.prog.info? 97).getD default, by kernel_rfl, by kernel_rfl, by kernel_rfl, (((Try.prog.info? 97).getD default).zero).getD undef, by kernel_rfl, by kernel_rfl⟩
  len := rfl
  one := all_one rfl
  k := ⟨(Try.prog.underlying 97).getD .invalid, by kernel_rfl, by kernel_rfl⟩
abbrev ti98 : TI := ⟨.other, 1, 8, [Value.nilFunc]⟩
theorem tok98 : TiOk Try.prog 98 ti98 where
  info := ⟨(Try.prog.info? 98).getD default, by kernel_rfl, by kernel_rfl, by kernel_rfl, (((Try.prog.info? 98).getD default).zero).getD undef, by kernel_rfl, by kernel_rfl⟩
  len := rfl
  one := all_one rfl
  k := ⟨(Try.prog.underlying 98).getD .invalid, by kernel_rfl, by kernel_rfl⟩
abbrev ti99 : TI := ⟨.int .u64, 1, 8, [Value.int .u64 0]⟩
theorem tok99 : TiOk Try.prog 99 ti99 where
  info := ⟨(Try.prog.info? 99).getD default, by kernel_rfl, by kernel_rfl, by kernel_rfl, (((Try.prog.info? 99).getD default).zero).getD undef, by kernel_rfl, by kernel_rfl⟩
  len := rfl
  one := all_one rfl
  k := (show Try.prog.underlying 99 = some (.int .u64) from by kernel_rfl)
abbrev ti100 : TI := ⟨.other, 1, 8, [Value.nilFunc]⟩
theorem tok100 : TiOk Try.prog 100 ti100 where
  info := ⟨(Try.prog.info? 100).getD default, by kernel_rfl, by kernel_rfl, by kernel_rfl, (((Try.prog.info? 100).getD default).zero).getD undef, by kernel_rfl, by kernel_rfl⟩
  len := rfl
  one := all_one rfl
  k := ⟨(Try.prog.underlying 100).getD .invalid, by kernel_rfl, by kernel_rfl⟩
abbrev ti101 : TI := ⟨.other, 1, 8, [Value.nilFunc]⟩
theorem tok101 : TiOk Try.prog 101 ti101 where
  info := ⟨(Try.prog.info? 101).getD default, by kernel_rfl, by kernel_rfl, by kernel_rfl, (((Try.prog.info? 101).getD default).zero).getD undef, by kernel_rfl, by kernel_rfl⟩
  len := rfl
  one := all_one rfl
  k := ⟨(Try.prog.underlying 101).getD .invalid, by kernel_rfl, by kernel_rfl⟩
abbrev ti102 : TI := ⟨.other, 1, 8, [Value.nilFunc]⟩
theorem tok102 : TiOk Try.prog 102 ti102 where
  info := ⟨(Try.prog.info? 102).getD default, by kernel_rfl, by kernel_rfl, by kernel_rfl, (((Try.prog.info? 102).getD default).zero).getD undef, by kernel_rfl, by kernel_rfl⟩
  len := rfl
  one := all_one rfl
  k := ⟨(Try.prog.underlying 102).getD .invalid, by kernel_rfl, by kernel_rfl⟩
abbrev ti103 : TI := ⟨.other, 1, 8, [Value.nilFunc]⟩
theorem tok103 : TiOk Try.prog 103 ti103 where
  info := ⟨(Try.prog.info? 103).getD default, by kernel_rfl, by kernel_rfl, by kernel_rfl, (((Try.prog.info? 103).getD default).zero).getD undef, by kernel_rfl, by kernel_rfl⟩
  len := rfl
  one := all_one rfl
  k := ⟨(Try.prog.underlying 103).getD .invalid, by kernel_rfl, by kernel_rfl⟩
abbrev ti104 : TI := ⟨.other, 1, 8, [Value.nilFunc]⟩
theorem tok104 : TiOk Try.prog 104 ti104 where
  info := ⟨(Try.prog.info? 104).getD default, by kernel_rfl, by kernel_rfl, by kernel_rfl, (((Try.prog.info? 104).getD default).zero).getD undef, by kernel_rfl, by kernel_rfl⟩
  len := rfl
  one := all_one rfl
  k := ⟨(Try.prog.underlying 104).getD .invalid, by kernel_rfl, by kernel_rfl⟩
abbrev ti105 : TI := ⟨.other, 1, 8, [Value.nilFunc]⟩
theorem tok105 : TiOk Try.prog 105 ti105 where
  info := ⟨(Try.prog.info? 105).getD default, by kernel_rfl, by kernel_rfl, by kernel_rfl, (((Try.prog.info? 105).getD default).zero).getD undef, by kernel_rfl, by kernel_rfl⟩
  len := rfl
  one := all_one rfl
  k := ⟨(Try.prog.underlying 105).getD .invalid, by kernel_rfl, by kernel_rfl⟩
abbrev ti106 : TI := ⟨.other, 1, 8, [Value.nilFunc]⟩
theorem tok106 : TiOk Try.prog 106 ti106 where
  info := ⟨(Try.prog.info? 106).getD default, by kernel_rfl, by kernel_rfl, by kernel_rfl, (((Try.prog.info? 106).getD default).zero).getD undef, by kernel_rfl, by kernel_rfl⟩
  len := rfl
  one := all_one rfl
  k := ⟨(Try.prog.underlying 106).getD .invalid, by kernel_rfl, by kernel_rfl⟩
abbrev ti107 : TI := ⟨.array 2 22, 2, 48, [Value.slice none 0 0, Value.slice none 0 0]⟩
theorem tok107 : TiOk Try.prog 107 ti107 where
  info := ⟨(Try.prog.info? 107).getD default, by kernel_rfl, by kernel_rfl, by kernel_rfl, (((Try.prog.info? 107).getD default).zero).getD undef, by kernel_rfl, by kernel_rfl⟩
  len := rfl
  one := all_one rfl
  k := (show Try.prog.underlying 107 = some (.array 2 22) from by kernel_rfl)
abbrev ti108 : TI := ⟨.other, 1, 8, [Value.nilFunc]⟩
theorem tok108 : TiOk Try.prog 108 ti108 where
  info := ⟨(Try.prog.info? 108).getD default, by kernel_rfl, by kernel_rfl, by kernel_rfl, (((Try.prog.info? 108).getD default).zero).getD undef, by kernel_rfl, by kernel_rfl⟩
  len := rfl
  one := all_one rfl
  k := ⟨(Try.prog.underlying 108).getD .invalid, by kernel_rfl, by kernel_rfl⟩
abbrev ti109 : TI := ⟨.other, 1, 8, [Value.nilFunc]⟩
theorem tok109 : TiOk Try.prog 109 ti109 where
  info := ⟨(Try.prog.info? 109).getD default, by kernel_rfl, by kernel_rfl, by kernel_rfl, (((Try.prog.info? 109).getD default).zero).getD undef, by kernel_rfl, by kernel_rfl⟩
  len := rfl
  one := all_one rfl
  k := ⟨(Try.prog.underlying 109).getD .invalid, by kernel_rfl, by kernel_rfl⟩
abbrev ti110 : TI := ⟨.other, 1, 8, [Value.nilFunc]⟩
theorem tok110 : TiOk Try.prog 110 ti110 where
  info := ⟨(Try.prog.info? 110).getD default, by kernel_rfl, by kernel_rfl, by kernel_rfl, (((Try.prog.info? 110).getD default).zero).getD undef, by kernel_rfl, by kernel_rfl⟩
  len := rfl
  one := all_one rfl
  k := ⟨(Try.prog.underlying 110).getD .invalid, by kernel_rfl, by kernel_rfl⟩
abbrev ti111 : TI := ⟨.other, 1, 8, [Value.nilFunc]⟩
theorem tok111 : TiOk Try.prog 111 ti111 where
  info := ⟨(Try.prog.info? 111).getD default, by kernel_rfl, by kernel_rfl, by kernel_rfl, (((Try.prog.info? 111).getD default).zero).getD undef, by kernel_rfl, by kernel_rfl⟩
  len := rfl
  one := all_one rfl
  k := ⟨(Try.prog.underlying 111).getD .invalid, by kernel_rfl, by kernel_rfl⟩
abbrev ti112 : TI := ⟨.other, 1, 8, [Value.nilFunc]⟩
theorem tok112 : TiOk Try.prog 112 ti112 where
  info := ⟨(Try.prog.info? 112).getD default, by kernel_rfl, by kernel_rfl, by kernel_rfl, (((Try.prog.info? 112).getD default).zero).getD undef, by kernel_rfl, by kernel_rfl⟩
  len := rfl
  one := all_one rfl
  k := ⟨(Try.prog.underlying 112).getD .invalid, by kernel_rfl, by kernel_rfl⟩
abbrev ti113 : TI := ⟨.other, 1, 8, [Value.nilFunc]⟩
theorem tok113 : TiOk Try.prog 113 ti113 where
  info := ⟨(Try.prog.info? 113).getD default, by kernel_rfl, by kernel_rfl, by kernel_rfl, (((Try.prog.info? 113).getD default).zero).getD undef, by kernel_rfl, by kernel_rfl⟩
  len := rfl
  one := all_one rfl
  k := ⟨(Try.prog.underlying 113).getD .invalid, by kernel_rfl, by kernel_rfl⟩
abbrev ti114 : TI := ⟨.other, 1, 8, [Value.nilFunc]⟩
theorem tok114 : TiOk Try.prog 114 ti114 where
  info := ⟨(Try.prog.info? 114).getD default, by kernel_rfl, by kernel_rfl, by kernel_rfl, (((Try.prog.info? 114).getD default).zero).getD undef, by kernel_rfl, by kernel_rfl⟩
  len := rfl
  one := all_one rfl
  k := ⟨(Try.prog.underlying 114).getD .invalid, by kernel_rfl, by kernel_rfl⟩
abbrev ti115 : TI := ⟨.other, 1, 8, [Value.nilFunc]⟩
theorem tok115 : TiOk Try.prog 115 ti115 where
  info := ⟨(Try.prog.info? 115).getD default, by kernel_rfl, by kernel_rfl, by kernel_rfl, (((Try.prog.info? 115).getD default).zero).getD undef, by kernel_rfl, by kernel_rfl⟩
  len := rfl
  one := all_one rfl
  k := ⟨(Try.prog.underlying 115).getD .invalid, by kernel_rfl, by kernel_rfl⟩
abbrev ti116 : TI := ⟨.other, 1, 8, [Value.nilFunc]⟩
theorem tok116 : TiOk Try.prog 116 ti116 where
  info := ⟨(Try.prog.info? 116).getD default, by kernel_rfl, by kernel_rfl, by kernel_rfl, (((Try.prog.info? 116).getD default).zero).getD undef, by kernel_rfl, by kernel_rfl⟩
  len := rfl
  one := all_one rfl
  k := ⟨(Try.prog.underlying 116).getD .invalid, by kernel_rfl, by kernel_rfl⟩
abbrev ti117 : TI := ⟨.other, 1, 8, [Value.nilFunc]⟩
theorem tok117 : TiOk Try.prog 117 ti117 where
  info := ⟨(Try.prog.info? 117).getD default, by kernel_rfl, by kernel_rfl, by kernel_rfl, (((Try.prog.info? 117).getD default).zero).getD undef, by kernel_rfl, by kernel_rfl⟩
  len := rfl
  one := all_one rfl
  k := ⟨(Try.prog.underlying 117).getD .invalid, by kernel_rfl, by kernel_rfl⟩
abbrev ti118 : TI := ⟨.other, 1, 8, [Value.nilFunc]⟩
theorem tok118 : TiOk Try.prog 118 ti118 where
  info := ⟨(Try.prog.info? 118).getD default, by kernel_rfl, by kernel_rfl, by kernel_rfl, (((Try.prog.info? 118).getD default).zero).getD undef, by kernel_rfl, by kernel_rfl⟩
  len := rfl
  one := all_one rfl
  k := ⟨(Try.prog.underlying 118).getD .invalid, by kernel_rfl, by kernel_rfl⟩
abbrev ti119 : TI := ⟨.map 3 4, 1, 8, [Value.map none]⟩
theorem tok119 : TiOk Try.prog 119 ti119 where
  info := ⟨(Try.prog.info? 119).getD default, by kernel_rfl, by kernel_rfl, by kernel_rfl, (((Try.prog.info? 119).getD default).zero).getD undef, by kernel_rfl, by kernel_rfl⟩
  len := rfl
  one := all_one rfl
  k := (show Try.prog.underlying 119 = some (.map 3 4) from by kernel_rfl)
abbrev ti120 : TI := ⟨.other, 1, 8, [Value.nilFunc]⟩
theorem tok120 : TiOk Try.prog 120 ti120 where
  info := ⟨(Try.prog.info? 120).getD default, by kernel_rfl, by kernel_rfl, by kernel_rfl, (((Try.prog.info? 120).getD default).zero).getD undef, by kernel_rfl, by kernel_rfl⟩
  len := rfl
  one := all_one rfl
  k := ⟨(Try.prog.underlying 120).getD .invalid, by kernel_rfl, by kernel_rfl⟩
abbrev ti121 : TI := ⟨.other, 1, 8, [Value.pointer none]⟩
theorem tok121 : TiOk Try.prog 121 ti121 where
  info := ⟨(Try.prog.info? 121).getD default, by kernel_rfl, by kernel_rfl, by kernel_rfl, (((Try.prog.info? 121).getD default).zero).getD undef, by kernel_rfl, by kernel_rfl⟩
  len := rfl
  one := all_one rfl
  k := ⟨(Try.prog.underlying 121).getD .invalid, by kernel_rfl, by kernel_rfl⟩
abbrev ti122 : TI := ⟨.struct [(0, 3), (1, 2), (2, 2), (3, 2)], 4, 32, [Value.int .i64 0, Value.int .i64 0, Value.int .i64 0, Value.int .i64 0]⟩
theorem tok122 : TiOk Try.prog 122 ti122 where
  info := ⟨(Try.prog.info? 122).getD default, by kernel_rfl, by kernel_rfl, by kernel_rfl, (((Try.prog.info? 122).getD default).zero).getD undef, by kernel_rfl, by kernel_rfl⟩
  len := rfl
  one := all_one rfl
  k := ⟨(match Try.prog.underlying 122 with | some (.struct f) => f | _ => #[]), by kernel_rfl, by kernel_rfl⟩
abbrev ti123 : TI := ⟨.struct [(0, 3), (1, 2), (2, 2), (3, 2)], 4, 32, [Value.int .i64 0, Value.int .i64 0, Value.int .i64 0, Value.int .i64 0]⟩
theorem tok123 : TiOk Try.prog 123 ti123 where
  info := ⟨(Try.prog.info? 123).getD default, by kernel_rfl, by kernel_rfl, by kernel_rfl, (((Try.prog.info? 123).getD default).zero).getD undef, by kernel_rfl, by kernel_rfl⟩
  len := rfl
  one := all_one rfl
  k := ⟨(match Try.prog.underlying 123 with | some (.struct f) => f | _ => #[]), by kernel_rfl, by kernel_rfl⟩
abbrev ti124 : TI := ⟨.other, 1, 8, [Value.pointer none]⟩
theorem tok124 : TiOk Try.prog 124 ti124 where
  info := ⟨(Try.prog.info? 124).getD default, by kernel_rfl, by kernel_rfl, by kernel_rfl, (((Try.prog.info? 124).getD default).zero).getD undef, by kernel_rfl, by kernel_rfl⟩
  len := rfl
  one := all_one rfl
  k := ⟨(Try.prog.underlying 124).getD .invalid, by kernel_rfl, by kernel_rfl⟩
abbrev ti125 : TI := ⟨.other, 1, 8, [Value.nilFunc]⟩
theorem tok125 : TiOk Try.prog 125 ti125 where
  info := ⟨(Try.prog.info? 125).getD default, by kernel_rfl, by kernel_rfl, by kernel_rfl, (((Try.prog.info? 125).getD default).zero).getD undef, by kernel_rfl, by kernel_rfl⟩
  len := rfl
  one := all_one rfl
  k := ⟨(Try.prog.underlying 125).getD .invalid, by kernel_rfl, by kernel_rfl⟩
abbrev ti126 : TI := ⟨.other, 1, 8, [Value.nilFunc]⟩
theorem tok126 : TiOk Try.prog 126 ti126 where
  info := ⟨(Try.prog.info? 126).getD default, by kernel_rfl, by kernel_rfl, by kernel_rfl, (((Try.prog.info? 126).getD default).zero).getD undef, by kernel_rfl, by kernel_rfl⟩
  len := rfl
  one := all_one rfl
  k := ⟨(Try.prog.underlying 126).getD .invalid, by kernel_rfl, by kernel_rfl⟩
abbrev ti127 : TI := ⟨.int .i64, 1, 8, [Value.int .i64 0]⟩
theorem tok127 : TiOk Try.prog 127 ti127 where
  info := ⟨(Try.prog.info? 127).getD default, by kernel_rfl, by kernel_rfl, by kernel_rfl, (((Try.prog.info? 127).getD default).zero).getD undef, by kernel_rfl, by kernel_rfl⟩
  len := rfl
  one := all_one rfl
  k := (show Try.prog.underlying 127 = some (.int .i64) from by kernel_rfl)
abbrev ti129 : TI := ⟨.other, 1, 8, [Value.nilFunc]⟩
theorem tok129 : TiOk Try.prog 129 ti129 where
  info := ⟨(Try.prog.info? 129).getD default, by kernel_rfl, by kernel_rfl, by kernel_rfl, (((Try.prog.info? 129).getD default).zero).getD undef, by kernel_rfl, by kernel_rfl⟩
  len := rfl
  one := all_one rfl
  k := ⟨(Try.prog.underlying 129).getD .invalid, by kernel_rfl, by kernel_rfl⟩
abbrev ti130 : TI := ⟨.other, 1, 8, [Value.nilFunc]⟩
theorem tok130 : TiOk Try.prog 130 ti130 where
  info := ⟨(Try.prog.info? 130).getD default, by kernel_rfl, by kernel_rfl, by kernel_rfl, (((Try.prog.info? 130).getD default).zero).getD undef, by kernel_rfl, by kernel_rfl⟩
  len := rfl
  one := all_one rfl
  k := ⟨(Try.prog.underlying 130).getD .invalid, by kernel_rfl, by kernel_rfl⟩
abbrev ti131 : TI := ⟨.other, 1, 8, [Value.nilFunc]⟩
theorem tok131 : TiOk Try.prog 131 ti131 where
  info := ⟨(Try.prog.info? 131).getD default, by kernel_rfl, by kernel_rfl, by kernel_rfl, (((Try.prog.info? 131).getD default).zero).getD undef, by kernel_rfl, by kernel_rfl⟩
  len := rfl
  one := all_one rfl
  k := ⟨(Try.prog.underlying 131).getD .invalid, by kernel_rfl, by kernel_rfl⟩
abbrev ti132 : TI := ⟨.other, 1, 8, [Value.nilFunc]⟩
theorem tok132 : TiOk Try.prog 132 ti132 where
  info := ⟨(Try.prog.info? 132).getD default, by kernel_rfl, by kernel_rfl, by kernel_rfl, (((Try.prog.info? 132).getD default).zero).getD undef, by kernel_rfl, by kernel_rfl⟩
  len := rfl
  one := all_one rfl
  k := ⟨(Try.prog.underlying 132).getD .invalid, by kernel_rfl, by kernel_rfl⟩
abbrev ti133 : TI := ⟨.other, 1, 8, [Value.nilFunc]⟩
theorem tok133 : TiOk Try.prog 133 ti133 where
  info := ⟨(Try.prog.info? 133).getD default, by kernel_rfl, by kernel_rfl, by kernel_rfl, (((Try.prog.info? 133).getD default).zero).getD undef, by kernel_rfl, by kernel_rfl⟩
  len := rfl
  one := all_one rfl
  k := ⟨(Try.prog.underlying 133).getD .invalid, by kernel_rfl, by kernel_rfl⟩
abbrev ti134 : TI := ⟨.int .u32, 1, 4, [Value.int .u32 0]⟩
theorem tok134 : TiOk Try.prog 134 ti134 where
  info := ⟨(Try.prog.info? 134).getD default, by kernel_rfl, by kernel_rfl, by kernel_rfl, (((Try.prog.info? 134).getD default).zero).getD undef, by kernel_rfl, by kernel_rfl⟩
  len := rfl
  one := all_one rfl
  k := (show Try.prog.underlying 134 = some (.int .u32) from by kernel_rfl)
abbrev ti135 : TI := ⟨.other, 1, 8, [Value.nilFunc]⟩
theorem tok135 : TiOk Try.prog 135 ti135 where
  info := ⟨(Try.prog.info? 135).getD default, by kernel_rfl, by kernel_rfl, by kernel_rfl, (((Try.prog.info? 135).getD default).zero).getD undef, by kernel_rfl, by kernel_rfl⟩
  len := rfl
  one := all_one rfl
  k := ⟨(Try.prog.underlying 135).getD .invalid, by kernel_rfl, by kernel_rfl⟩
abbrev ti136 : TI := ⟨.int .u64, 1, 8, [Value.int .u64 0]⟩
theorem tok136 : TiOk Try.prog 136 ti136 where
  info := ⟨(Try.prog.info? 136).getD default, by kernel_rfl, by kernel_rfl, by kernel_rfl, (((Try.prog.info? 136).getD default).zero).getD undef, by kernel_rfl, by kernel_rfl⟩
  len := rfl
  one := all_one rfl
  k := (show Try.prog.underlying 136 = some (.int .u64) from by kernel_rfl)
abbrev ti137 : TI := ⟨.other, 1, 8, [Value.nilFunc]⟩
theorem tok137 : TiOk Try.prog 137 ti137 where
  info := ⟨(Try.prog.info? 137).getD default, by kernel_rfl, by kernel_rfl, by kernel_rfl, (((Try.prog.info? 137).getD default).zero).getD undef, by kernel_rfl, by kernel_rfl⟩
  len := rfl
  one := all_one rfl
  k := ⟨(Try.prog.underlying 137).getD .invalid, by kernel_rfl, by kernel_rfl⟩
abbrev ti138 : TI := ⟨.other, 1, 8, [Value.nilFunc]⟩
theorem tok138 : TiOk Try.prog 138 ti138 where
  info := ⟨(Try.prog.info? 138).getD default, by kernel_rfl, by kernel_rfl, by kernel_rfl, (((Try.prog.info? 138).getD default).zero).getD undef, by kernel_rfl, by kernel_rfl⟩
  len := rfl
  one := all_one rfl
  k := ⟨(Try.prog.underlying 138).getD .invalid, by kernel_rfl, by kernel_rfl⟩
abbrev ti139 : TI := ⟨.struct [(0, 2), (1, 2), (2, 2)], 3, 24, [Value.int .i64 0, Value.int .i64 0, Value.int .i64 0]⟩
theorem tok139 : TiOk Try.prog 139 ti139 where
  info := ⟨(Try.prog.info? 139).getD default, by kernel_rfl, by kernel_rfl, by kernel_rfl, (((Try.prog.info? 139).getD default).zero).getD undef, by kernel_rfl, by kernel_rfl⟩
  len := rfl
  one := all_one rfl
  k := ⟨(match Try.prog.underlying 139 with | some (.struct f) => f | _ => #[]), by kernel_rfl, by kernel_rfl⟩
abbrev ti140 : TI := ⟨.struct [(0, 2), (1, 2), (2, 2)], 3, 24, [Value.int .i64 0, Value.int .i64 0, Value.int .i64 0]⟩
theorem tok140 : TiOk Try.prog 140 ti140 where
  info := ⟨(Try.prog.info? 140).getD default, by kernel_rfl, by kernel_rfl, by kernel_rfl, (((Try.prog.info? 140).getD default).zero).getD undef, by kernel_rfl, by kernel_rfl⟩
  len := rfl
  one := all_one rfl
  k := ⟨(match Try.prog.underlying 140 with | some (.struct f) => f | _ => #[]), by kernel_rfl, by kernel_rfl⟩
abbrev ti141 : TI := ⟨.int .u64, 1, 8, [Value.int .u64 0]⟩
theorem tok141 : TiOk Try.prog 141 ti141 where
  info := ⟨(Try.prog.info? 141).getD default, by kernel_rfl, by kernel_rfl, by kernel_rfl, (((Try.prog.info? 141).getD default).zero).getD undef, by kernel_rfl, by kernel_rfl⟩
  len := rfl
  one := all_one rfl
  k := (show Try.prog.underlying 141 = some (.int .u64) from by kernel_rfl)
abbrev ti142 : TI := ⟨.other, 1, 8, [Value.nilFunc]⟩
theorem tok142 : TiOk Try.prog 142 ti142 where
  info := ⟨(Try.prog.info? 142).getD default, by kernel_rfl, by kernel_rfl, by kernel_rfl, (((Try.prog.info? 142).getD default).zero).getD undef, by kernel_rfl, by kernel_rfl⟩
  len := rfl
  one := all_one rfl
  k := ⟨(Try.prog.underlying 142).getD .invalid, by kernel_rfl, by kernel_rfl⟩
abbrev ti143 : TI := ⟨.other, 1, 8, [Value.nilFunc]⟩
theorem tok143 : TiOk Try.prog 143 ti143 where
  info := ⟨(Try.prog.info? 143).getD default, by kernel_rfl, by kernel_rfl, by kernel_rfl, (((Try.prog.info? 143).getD default).zero).getD undef, by kernel_rfl, by kernel_rfl⟩
  len := rfl
  one := all_one rfl
  k := ⟨(Try.prog.underlying 143).getD .invalid, by kernel_rfl, by kernel_rfl⟩
abbrev ti144 : TI := ⟨.other, 1, 8, [Value.nilFunc]⟩
theorem tok144 : TiOk Try.prog 144 ti144 where
  info := ⟨(Try.prog.info? 144).getD default, by kernel_rfl, by kernel_rfl, by kernel_rfl, (((Try.prog.info? 144).getD default).zero).getD undef, by kernel_rfl, by kernel_rfl⟩
  len := rfl
  one := all_one rfl
  k := ⟨(Try.prog.underlying 144).getD .invalid, by kernel_rfl, by kernel_rfl⟩
abbrev ti145 : TI := ⟨.other, 1, 8, [Value.pointer none]⟩
theorem tok145 : TiOk Try.prog 145 ti145 where
  info := ⟨(Try.prog.info? 145).getD default, by kernel_rfl, by kernel_rfl, by kernel_rfl, (((Try.prog.info? 145).getD default).zero).getD undef, by kernel_rfl, by kernel_rfl⟩
  len := rfl
  one := all_one rfl
  k := ⟨(Try.prog.underlying 145).getD .invalid, by kernel_rfl, by kernel_rfl⟩
abbrev ti146 : TI := ⟨.other, 1, 8, [Value.nilFunc]⟩
theorem tok146 : TiOk Try.prog 146 ti146 where
  info := ⟨(Try.prog.info? 146).getD default, by kernel_rfl, by kernel_rfl, by kernel_rfl, (((Try.prog.info? 146).getD default).zero).getD undef, by kernel_rfl, by kernel_rfl⟩
  len := rfl
  one := all_one rfl
  k := ⟨(Try.prog.underlying 146).getD .invalid, by kernel_rfl, by kernel_rfl⟩
abbrev ti147 : TI := ⟨.slice 140, 1, 24, [Value.slice none 0 0]⟩
theorem tok147 : TiOk Try.prog 147 ti147 where
  info := ⟨(Try.prog.info? 147).getD default, by kernel_rfl, by kernel_rfl, by kernel_rfl, (((Try.prog.info? 147).getD default).zero).getD undef, by kernel_rfl, by kernel_rfl⟩
  len := rfl
  one := all_one rfl
  k := (show Try.prog.underlying 147 = some (.slice 140) from by kernel_rfl)
abbrev ti148 : TI := ⟨.other, 1, 8, [Value.nilFunc]⟩
theorem tok148 : TiOk Try.prog 148 ti148 where
  info := ⟨(Try.prog.info? 148).getD default, by kernel_rfl, by kernel_rfl, by kernel_rfl, (((Try.prog.info? 148).getD default).zero).getD undef, by kernel_rfl, by kernel_rfl⟩
  len := rfl
  one := all_one rfl
  k := ⟨(Try.prog.underlying 148).getD .invalid, by kernel_rfl, by kernel_rfl⟩
abbrev ti149 : TI := ⟨.other, 1, 8, [Value.nilFunc]⟩
theorem tok149 : TiOk Try.prog 149 ti149 where
  info := ⟨(Try.prog.info? 149).getD default, by kernel_rfl, by kernel_rfl, by kernel_rfl, (((Try.prog.info? 149).getD default).zero).getD undef, by kernel_rfl, by kernel_rfl⟩
  len := rfl
  one := all_one rfl
  k := ⟨(Try.prog.underlying 149).getD .invalid, by kernel_rfl, by kernel_rfl⟩
abbrev ti150 : TI := ⟨.other, 1, 8, [Value.pointer none]⟩
theorem tok150 : TiOk Try.prog 150 ti150 where
  info := ⟨(Try.prog.info? 150).getD default, by kernel_rfl, by kernel_rfl, by kernel_rfl, (((Try.prog.info? 150).getD default).zero).getD undef, by kernel_rfl, by kernel_rfl⟩
  len := rfl
  one := all_one rfl
  k := ⟨(Try.prog.underlying 150).getD .invalid, by kernel_rfl, by kernel_rfl⟩
abbrev ti152 : TI := ⟨.other, 1, 8, [Value.nilFunc]⟩
theorem tok152 : TiOk Try.prog 152 ti152 where
  info := ⟨(Try.prog.info? 152).getD default, by kernel_rfl, by kernel_rfl, by kernel_rfl, (((Try.prog.info? 152).getD default).zero).getD undef, by kernel_rfl, by kernel_rfl⟩
  len := rfl
  one := all_one rfl
  k := ⟨(Try.prog.underlying 152).getD .invalid, by kernel_rfl, by kernel_rfl⟩
abbrev ti153 : TI := ⟨.other, 1, 8, [Value.nilFunc]⟩
theorem tok153 : TiOk Try.prog 153 ti153 where
  info := ⟨(Try.prog.info? 153).getD default, by kernel_rfl, by kernel_rfl, by kernel_rfl, (((Try.prog.info? 153).getD default).zero).getD undef, by kernel_rfl, by kernel_rfl⟩
  len := rfl
  one := all_one rfl
  k := ⟨(Try.prog.underlying 153).getD .invalid, by kernel_rfl, by kernel_rfl⟩
abbrev ti154 : TI := ⟨.other, 1, 8, [Value.nilFunc]⟩
theorem tok154 : TiOk Try.prog 154 ti154 where
  info := ⟨(Try.prog.info? 154).getD default, by kernel_rfl, by kernel_rfl, by kernel_rfl, (((Try.prog.info? 154).getD default).zero).getD undef, by kernel_rfl, by kernel_rfl⟩
  len := rfl
  one := all_one rfl
  k := ⟨(Try.prog.underlying 154).getD .invalid, by kernel_rfl, by kernel_rfl⟩
abbrev ti157 : TI := ⟨.array 0 16, 0, 0, []⟩
theorem tok157 : TiOk Try.prog 157 ti157 where
  info := ⟨(Try.prog.info? 157).getD default, by kernel_rfl, by kernel_rfl, by kernel_rfl, (((Try.prog.info? 157).getD default).zero).getD undef, by kernel_rfl, by kernel_rfl⟩
  len := rfl
  one := all_one rfl
  k := (show Try.prog.underlying 157 = some (.array 0 16) from by kernel_rfl)
abbrev ti158 : TI := ⟨.struct [(0, 157)], 0, 0, []⟩
theorem tok158 : TiOk Try.prog 158 ti158 where
  info := ⟨(Try.prog.info? 158).getD default, by kernel_rfl, by kernel_rfl, by kernel_rfl, (((Try.prog.info? 158).getD default).zero).getD undef, by kernel_rfl, by kernel_rfl⟩
  len := rfl
  one := all_one rfl
  k := ⟨(match Try.prog.underlying 158 with | some (.struct f) => f | _ => #[]), by kernel_rfl, by kernel_rfl⟩
abbrev ti159 : TI := ⟨.struct [(0, 157)], 0, 0, []⟩
theorem tok159 : TiOk Try.prog 159 ti159 where
  info := ⟨(Try.prog.info? 159).getD default, by kernel_rfl, by kernel_rfl, by kernel_rfl, (((Try.prog.info? 159).getD default).zero).getD undef, by kernel_rfl, by kernel_rfl⟩
  len := rfl
  one := all_one rfl
  k := ⟨(match Try.prog.underlying 159 with | some (.struct f) => f | _ => #[]), by kernel_rfl, by kernel_rfl⟩
abbrev ti160 : TI := ⟨.other, 1, 8, [Value.nilFunc]⟩
theorem tok160 : TiOk Try.prog 160 ti160 where
  info := ⟨(Try.prog.info? 160).getD default, by kernel_rfl, by kernel_rfl, by kernel_rfl, (((Try.prog.info? 160).getD default).zero).getD undef, by kernel_rfl, by kernel_rfl⟩
  len := rfl
  one := all_one rfl
  k := ⟨(Try.prog.underlying 160).getD .invalid, by kernel_rfl, by kernel_rfl⟩
abbrev ti161 : TI := ⟨.int .u8, 1, 1, [Value.int .u8 0]⟩
theorem tok161 : TiOk Try.prog 161 ti161 where
  info := ⟨(Try.prog.info? 161).getD default, by kernel_rfl, by kernel_rfl, by kernel_rfl, (((Try.prog.info? 161).getD default).zero).getD undef, by kernel_rfl, by kernel_rfl⟩
  len := rfl
  one := all_one rfl
  k := (show Try.prog.underlying 161 = some (.int .u8) from by kernel_rfl)
abbrev ti162 : TI := ⟨.int .u8, 1, 1, [Value.int .u8 0]⟩
theorem tok162 : TiOk Try.prog 162 ti162 where
  info := ⟨(Try.prog.info? 162).getD default, by kernel_rfl, by kernel_rfl, by kernel_rfl, (((Try.prog.info? 162).getD default).zero).getD undef, by kernel_rfl, by kernel_rfl⟩
  len := rfl
  one := all_one rfl
  k := (show Try.prog.underlying 162 = some (.int .u8) from by kernel_rfl)
abbrev ti163 : TI := ⟨.other, 1, 8, [Value.nilFunc]⟩
theorem tok163 : TiOk Try.prog 163 ti163 where
  info := ⟨(Try.prog.info? 163).getD default, by kernel_rfl, by kernel_rfl, by kernel_rfl, (((Try.prog.info? 163).getD default).zero).getD undef, by kernel_rfl, by kernel_rfl⟩
  len := rfl
  one := all_one rfl
  k := ⟨(Try.prog.underlying 163).getD .invalid, by kernel_rfl, by kernel_rfl⟩
abbrev ti164 : TI := ⟨.other, 1, 8, [Value.pointer none]⟩
theorem tok164 : TiOk Try.prog 164 ti164 where
  info := ⟨(Try.prog.info? 164).getD default, by kernel_rfl, by kernel_rfl, by kernel_rfl, (((Try.prog.info? 164).getD default).zero).getD undef, by kernel_rfl, by kernel_rfl⟩
  len := rfl
  one := all_one rfl
  k := ⟨(Try.prog.underlying 164).getD .invalid, by kernel_rfl, by kernel_rfl⟩
abbrev ti165 : TI := ⟨.int .i32, 1, 4, [Value.int .i32 0]⟩
theorem tok165 : TiOk Try.prog 165 ti165 where
  info := ⟨(Try.prog.info? 165).getD default, by kernel_rfl, by kernel_rfl, by kernel_rfl, (((Try.prog.info? 165).getD default).zero).getD undef, by kernel_rfl, by kernel_rfl⟩
  len := rfl
  one := all_one rfl
  k := (show Try.prog.underlying 165 = some (.int .i32) from by kernel_rfl)
abbrev ti166 : TI := ⟨.int .i32, 1, 4, [Value.int .i32 0]⟩
theorem tok166 : TiOk Try.prog 166 ti166 where
  info := ⟨(Try.prog.info? 166).getD default, by kernel_rfl, by kernel_rfl, by kernel_rfl, (((Try.prog.info? 166).getD default).zero).getD undef, by kernel_rfl, by kernel_rfl⟩
  len := rfl
  one := all_one rfl
  k := (show Try.prog.underlying 166 = some (.int .i32) from by kernel_rfl)
abbrev ti167 : TI := ⟨.struct [(0, 12), (1, 12), (2, 134), (3, 161), (4, 5), (5, 5), (6, 162), (7, 163), (8, 164), (9, 165), (10, 166)], 11, 48, [Value.int .u64 0, Value.int .u64 0, Value.int .u32 0, Value.int .u8 0, Value.int .u8 0, Value.int .u8 0, Value.int .u8 0, Value.nilFunc, Value.pointer none, Value.int .i32 0, Value.int .i32 0]⟩
theorem tok167 : TiOk Try.prog 167 ti167 where
  info := ⟨(Try.prog.info? 167).getD default, by kernel_rfl, by kernel_rfl, by kernel_rfl, (((Try.prog.info? 167).getD default).zero).getD undef, by kernel_rfl, by kernel_rfl⟩
  len := rfl
  one := all_one rfl
  k := ⟨(match Try.prog.underlying 167 with | some (.struct f) => f | _ => #[]), by kernel_rfl, by kernel_rfl⟩
abbrev ti168 : TI := ⟨.struct [(0, 12), (1, 12), (2, 134), (3, 161), (4, 5), (5, 5), (6, 162), (7, 163), (8, 164), (9, 165), (10, 166)], 11, 48, [Value.int .u64 0, Value.int .u64 0, Value.int .u32 0, Value.int .u8 0, Value.int .u8 0, Value.int .u8 0, Value.int .u8 0, Value.nilFunc, Value.pointer none, Value.int .i32 0, Value.int .i32 0]⟩
theorem tok168 : TiOk Try.prog 168 ti168 where
  info := ⟨(Try.prog.info? 168).getD default, by kernel_rfl, by kernel_rfl, by kernel_rfl, (((Try.prog.info? 168).getD default).zero).getD undef, by kernel_rfl, by kernel_rfl⟩
  len := rfl
  one := all_one rfl
  k := ⟨(match Try.prog.underlying 168 with | some (.struct f) => f | _ => #[]), by kernel_rfl, by kernel_rfl⟩
def tbl : Tbl := [(1, ti1), (2, ti2), (3, ti3), (4, ti4), (5, ti5), (6, ti6), (7, ti7), (8, ti8), (12, ti12), (15, ti15), (16, ti16), (17, ti17), (18, ti18), (19, ti19), (21, ti21), (22, ti22), (23, ti23), (24, ti24), (25, ti25), (26, ti26), (27, ti27), (28, ti28), (29, ti29), (30, ti30), (31, ti31), (32, ti32), (33, ti33), (34, ti34), (35, ti35), (36, ti36), (37, ti37), (38, ti38), (40, ti40), (41, ti41), (42, ti42), (43, ti43), (45, ti45), (46, ti46), (47, ti47), (48, ti48), (49, ti49), (50, ti50), (51, ti51), (52, ti52), (53, ti53), (54, ti54), (55, ti55), (56, ti56), (57, ti57), (58, ti58), (59, ti59), (61, ti61), (62, ti62), (63, ti63), (64, ti64), (65, ti65), (66, ti66), (67, ti67), (68, ti68), (69, ti69), (70, ti70), (71, ti71), (72, ti72), (73, ti73), (74, ti74), (75, ti75), (77, ti77), (78, ti78), (79, ti79), (80, ti80), (81, ti81), (82, ti82), (83, ti83), (85, ti85), (86, ti86), (87, ti87), (88, ti88), (89, ti89), (90, ti90), (91, ti91), (92, ti92), (94, ti94), (95, ti95), (96, ti96), (97, ti97), (98, ti98), (99, ti99), (100, ti100), (101, ti101), (102, ti102), (103, ti103), (104, ti104), (105, ti105), (106, ti106), (107, ti107), (108, ti108), (109, ti109), (110, ti110), (111, ti111), (112, ti112), (113, ti113), (114, ti114), (115, ti115), (116, ti116), (117, ti117), (118, ti118), (119, ti119), (120, ti120), (121, ti121), (122, ti122), (123, ti123), (124, ti124), (125, ti125), (126, ti126), (127, ti127), (129, ti129), (130, ti130), (131, ti131), (132, ti132), (133, ti133), (134, ti134), (135, ti135), (136, ti136), (137, ti137), (138, ti138), (139, ti139), (140, ti140), (141, ti141), (142, ti142), (143, ti143), (144, ti144), (145, ti145), (146, ti146), (147, ti147), (148, ti148), (149, ti149), (150, ti150), (152, ti152), (153, ti153), (154, ti154), (157, ti157), (158, ti158), (159, ti159), (160, ti160), (161, ti161), (162, ti162), (163, ti163), (164, ti164), (165, ti165), (166, ti166), (167, ti167), (168, ti168)]
theorem tbl_ok : TblOk Try.prog tbl := tblOk_all ⟨tok1, tok2, tok3, tok4, tok5, tok6, tok7, tok8, tok12, tok15, tok16, tok17, tok18, tok19, tok21, tok22, tok23, tok24, tok25, tok26, tok27, tok28, tok29, tok30, tok31, tok32, tok33, tok34, tok35, tok36, tok37, tok38, tok40, tok41, tok42, tok43, tok45, tok46, tok47, tok48, tok49, tok50, tok51, tok52, tok53, tok54, tok55, tok56, tok57, tok58, tok59, tok61, tok62, tok63, tok64, tok65, tok66, tok67, tok68, tok69, tok70, tok71, tok72, tok73, tok74, tok75, tok77, tok78, tok79, tok80, tok81, tok82, tok83, tok85, tok86, tok87, tok88, tok89, tok90, tok91, tok92, tok94, tok95, tok96, tok97, tok98, tok99, tok100, tok101, tok102, tok103, tok104, tok105, tok106, tok107, tok108, tok109, tok110, tok111, tok112, tok113, tok114, tok115, tok116, tok117, tok118, tok119, tok120, tok121, tok122, tok123, tok124, tok125, tok126, tok127, tok129, tok130, tok131, tok132, tok133, tok134, tok135, tok136, tok137, tok138, tok139, tok140, tok141, tok142, tok143, tok144, tok145, tok146, tok147, tok148, tok149, tok150, tok152, tok153, tok154, tok157, tok158, tok159, tok160, tok161, tok162, tok163, tok164, tok165, tok166, tok167, tok168, trivial⟩
end L12
